/-
  Bits: the law BitsPlays.
-/
import Derived.Test.YtajkofndbeohpaaBi
import Derived.Test.YtajkofndbeohpaaVgN
namespace Go.Proofs.Ytajkofndbeohpaa.VG
open Go
set_option linter.unusedSimpArgs false
set_option linter.unusedVariables false

/-- Both writers hold the same bits, in blocks of their own. -/
structure Two (W w : World) (a b : Nat) (bs : List Bool) : Prop where
  is : ∃ F G, Wr w F a bs ∧ Xr w G b bs ∧ (∀ k, F k → ¬ G k) ∧ Own W w F ∧ Own W w G
theorem Two.mod' {W w : World} {a b : Nat} {bs : List Bool} (h : Two W w a b bs) : Mod none' W w := by
  obtain ⟨F, G, _, _, _, h1, _⟩ := h.is
  exact h1.mod
/-- What changes blocks that are neither's. -/
theorem Two.other {W w w' : World} {a b : Nat} {bs : List Bool} {S : Nat → Prop} (h : Two W w a b bs) (m : Mod S w w') (hS : ∀ k, S k → W.heap.size ≤ k) (hF : ∀ F G, Wr w F a bs → Xr w G b bs → (∀ k, F k → ¬ S k) ∧ (∀ k, G k → ¬ S k)) : Two W w' a b bs := by
  obtain ⟨F, G, h1, h2, h3, h4, h5⟩ := h.is
  obtain ⟨q1, q2⟩ := hF F G h1 h2
  have hm := h4.mod.far hS m
  exact ⟨F, G, h1.mod m q1, h2.mod m q2, h3, h4.at hm, h5.at hm⟩

/-- One call of each. -/
theorem Two.step {W w w1 w2 : World} {a b : Nat} {bs cs : List Bool} {F G : Nat → Prop} (h1 : Wr w F a bs) (h2 : Xr w G b bs) (h3 : ∀ k, F k → ¬ G k) (h4 : Own W w F) (h5 : Own W w G)
    (c1 : WrAfter w F a cs w1) (c2 : XrAfter w1 G b cs w2) : Two W w2 a b cs := by
  obtain ⟨F1, A1, M1, N1⟩ := c1
  obtain ⟨G1, A2, M2, N2⟩ := c2
  have O1 := h4.step M1 (fun _ h => h) N1
  have P1 := h5.at O1.mod
  have D1 := dis_step h3 N1 h2.lt
  have P2 := P1.step M2 (fun _ h => h) N2
  have D2 := dis_step (fun k hk hk' => D1 k hk' hk) N2 A1.lt
  exact ⟨F1, G1, A1.mod M2 D1, A2, fun k hk hk' => D2 k hk' hk, O1.at P2.mod, P2⟩

theorem padN_lt (n : Nat) : padN n < 8 := by unfold padN; omega

end Go.Proofs.Ytajkofndbeohpaa.VG
