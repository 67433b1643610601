/-
  Bits: the law BitsReads.
-/
import Derived.Test.YtajkofndbeohpaaBk
namespace Go.Proofs.Ytajkofndbeohpaa.VG
open Go
set_option linter.unusedSimpArgs false
set_option linter.unusedVariables false

/-- Both readers are at the same place, in blocks of their own. -/
structure RY (W w : World) (a b : Nat) (F : Nat → Prop) (v : Value) (l : List Nat) (p : Nat) (e : Int) : Prop where
  rr : Rr w F a l p e
  yr : Yr w (fun k => k < W.heap.size) b v l p e
  own : Own W w F
  bf : ¬ F b

theorem RY.bW {W w : World} {a b : Nat} {F : Nat → Prop} {v : Value} {l : List Nat} {p : Nat} {e : Int} (h : RY W w a b F v l p e) : W.heap.size ≤ b := by
  have := h.yr.off; omega
theorem RY.other {W w w' : World} {a b : Nat} {F S : Nat → Prop} {v : Value} {l : List Nat} {p : Nat} {e : Int} (h : RY W w a b F v l p e) (m : Mod S w w') (hS : ∀ k, S k → W.heap.size ≤ k) (hF : ∀ k, F k → ¬ S k) (hb : ¬ S b) : RY W w' a b F v l p e :=
  ⟨h.rr.mod m hF, h.yr.mod m (fun k hk hk' => by have := hS k hk'; omega) hb, h.own.at (h.own.mod.far hS m), h.bf⟩
theorem RY.mid {W w w' : World} {a b : Nat} {F : Nat → Prop} {v : Value} {l : List Nat} {p p' : Nat} {e e' : Int} (h : RY W w a b F v l p e) (h1 : RrAfter w F a l p' e' w') : Yr w' (fun k => k < W.heap.size) b v l p e :=
  h.yr.mod h1.2 (fun k hk e => by have := h.own.far k (e ▸ h.rr.me); omega) (fun e => h.bf (e ▸ h.rr.me))
theorem RY.step {W w w1 w2 : World} {a b : Nat} {F : Nat → Prop} {v : Value} {l : List Nat} {p p' : Nat} {e e' : Int} (h : RY W w a b F v l p e) (h1 : RrAfter w F a l p' e' w1) (h2 : YrAfter w1 (fun k => k < W.heap.size) b v l p' e' w2) : RY W w2 a b F v l p' e' := by
  have o1 := h.own.step h1.2 (fun k hk => hk ▸ h.rr.me) (fun k hk => .inl hk)
  refine ⟨h1.1.mod h2.2 (fun k hk e => h.bf (e ▸ hk)), h2.1, o1.at (o1.mod.far (fun k hk => by have := h.bW; omega) h2.2), h.bf⟩

theorem bytes_of {H : Type} {enc : TypeId × Value → H} {w : World} {a : Option Addr} {len cap : Nat} (h : Sees enc Try.prog w 33 [.slice a len cap]) :
    ∃ l : List Nat, l.length = len ∧ len ≤ maxLen ∧ Rd (fun b => b < w.heap.size) w (.slice a len cap) len (bytesV l) ∧ ∀ x ∈ l, x < 256 := by
  have hc1 : Try.prog.cellsOf 5 = 1 := by kernel_rfl
  obtain ⟨oa, l, c, he, hm, ess, h1, h2, h3⟩ := h.slice (e := 5) (by kernel_rfl) (by rw [hc1]; omega)
  simp only [List.cons.injEq, Value.slice.injEq, and_true] at he
  obtain ⟨rfl, rfl, rfl⟩ := he
  obtain ⟨xs, rfl, h4⟩ := pick (f := fun n : Nat => [Value.int .u8 n]) (G := fun n => n < 256) ess (fun es hes => by
    obtain ⟨_, hs⟩ := h2 es hes
    obtain ⟨n0, e0, w0⟩ := hs.int (k := .u8) (by kernel_rfl)
    obtain ⟨m, rfl, hm⟩ := wf_u8 w0
    exact ⟨m, e0, hm⟩)
  refine ⟨xs, by simpa using h1, hm, ?_, h4⟩
  have : ∀ xs : List Nat, (xs.map fun n : Nat => [Value.int .u8 n]).flatten = bytesV xs := by
    intro xs
    unfold bytesV
    induction xs with
    | nil => rfl
    | cons x r ih => simp [ih]
  rw [this] at h3
  exact h3

end Go.Proofs.Ytajkofndbeohpaa.VG
