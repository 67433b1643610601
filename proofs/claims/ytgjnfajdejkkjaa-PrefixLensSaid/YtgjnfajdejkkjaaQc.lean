/-
  Elements as they lie: a growing list of nodes, told by number.
-/
import Derived.Test.YtgjnfajdejkkjaaWg
namespace Go.Proofs.Ytgjnfajdejkkjaa.VG
open Go
set_option linter.unusedSimpArgs false
set_option linter.unusedVariables false
set_option maxRecDepth 20000

theorem slTE : SlT Try.prog 60 61 1 8 := ⟨by kernel_rfl, ⟨_, _, rfl, rfl, rfl, rfl, rfl⟩, by omega⟩

theorem Sep.fuse {B : Nat} {w : World} {i1 i2 i3 : It} (hi : ∀ F1 F2, i1.P w F1 → i2.P w F2 → i3.P w (fun k => F1 k ∨ F2 k)) : ∀ {l : List It} {Fs : List (Nat → Prop)}, Sep B w (l ++ [i1, i2]) Fs →
    ∃ Gs, Sep B w (l ++ [i3]) Gs ∧ (∀ K : Nat → Prop, (∀ G ∈ Fs, ∀ k, K k → ¬ G k) → ∀ G ∈ Gs, ∀ k, K k → ¬ G k)
  | [], Fs, h => by
    match Fs, h with
    | [F1, F2], ⟨h1, h2, h3, h4, h5, h6, h7⟩ =>
      refine ⟨[fun k => F1 k ∨ F2 k], ⟨hi F1 F2 h1 h4, fun k hk => hk.elim (h2 k) (h5 k), (fun _ h => by cases h), trivial⟩, ?_⟩
      intro K hK G hG k hk
      simp only [List.mem_singleton] at hG
      subst hG
      exact fun h => h.elim (hK F1 (by simp) k hk) (hK F2 (by simp) k hk)
  | i :: l, Fs, h => by
    match Fs, h with
    | F :: Fs, ⟨h1, h2, h3, h4⟩ =>
      obtain ⟨Gs, g1, g2⟩ := Sep.fuse hi h4
      refine ⟨F :: Gs, ⟨h1, h2, g2 F h3, g1⟩, ?_⟩
      intro K hK L hL
      rcases List.mem_cons.1 hL with rfl | hL
      · exact hK _ (List.mem_cons_self ..)
      · exact g2 K (fun G hG => hK G (List.mem_cons_of_mem _ hG)) L hL
/-- The last two things told as one. -/
theorem Hp.fuse {W w : World} {i1 i2 : It} (l : List It) (i3 : It) (h : Hp W w (l ++ [i1, i2])) (hi : ∀ F1 F2, i1.P w F1 → i2.P w F2 → i3.P w (fun k => F1 k ∨ F2 k)) : Hp W w (l ++ [i3]) := by
  obtain ⟨Fs, hs⟩ := h.sep
  obtain ⟨Gs, g, _⟩ := Sep.fuse hi hs
  exact ⟨h.mod, Gs, g⟩
/-- The first two things lie apart. -/
theorem Hp.apart {W w : World} {i1 i2 : It} {l : List It} (h : Hp W w (i1 :: i2 :: l)) : ∃ F1 F2, i1.P w F1 ∧ i2.P w F2 ∧ (∀ k, F1 k → W.heap.size ≤ k) ∧ ∀ k, F1 k → ¬ F2 k := by
  obtain ⟨Fs, hs⟩ := h.sep
  match Fs, hs with
  | F1 :: F2 :: Fs, ⟨h1, h2, h3, h4, _⟩ => exact ⟨F1, F2, h1, h4, h2, h3 F2 (List.mem_cons_self ..)⟩

/-! ### Nodes -/
def ndV (n : Nd) : Value := match n.pr with | none => .slice none 0 0 | some p => p.1
def ndC (n : Nd) : Array Value := #[.int .i64 n.wt, .int .i64 n.sy, ndV n]
/-- The nodes T lie in w; whom their pairs name is told by S. -/
def Lies (w : World) (S T : List Nd) : Prop :=
  ∀ n ∈ T, (∃ el, w.heap[n.b]? = some (.cells (ndC n) el (0, 0))) ∧ ∀ p i j, n.pr = some (p, i, j) → w.ownsRow 0 61 1 p 2 [ndP S i, ndP S j]
def ndB (T : List Nd) (k : Nat) : Prop := ∃ n ∈ T, k = n.b ∨ ∃ p i j, n.pr = some (p, i, j) ∧ p.ownBlock = some k
theorem Lies.st {w w' : World} {S T : List Nd} {F : Nat → Prop} (h : Lies w S T) (m : Mod F w w') (d : ∀ k, ndB T k → ¬ F k) : Lies w' S T := fun n hn => by
  obtain ⟨⟨el, h1⟩, h2⟩ := h n hn
  exact ⟨⟨el, m.heap h1 (d _ ⟨n, hn, .inl rfl⟩)⟩, fun p i j e => m.owns (h2 p i j e) (fun b hb => d b ⟨n, hn, .inr ⟨p, i, j, e, hb⟩⟩)⟩
theorem Lies.lt {w : World} {S T : List Nd} (h : Lies w S T) (k : Nat) (hk : ndB T k) : k < w.heap.size := by
  obtain ⟨n, hn, hk⟩ := hk
  obtain ⟨⟨el, h1⟩, h2⟩ := h n hn
  rcases hk with rfl | ⟨p, i, j, e, hb⟩
  · exact heap_lt h1
  · exact ((h2 p i j e).lt k hb).2
def It.nd (S T : List Nd) : It where
  P w F := Lies w S T ∧ ∀ k, F k ↔ ndB T k
  st := fun ⟨h, hF⟩ m d => ⟨h.st m (fun k hk => d k ((hF k).2 hk)), hF⟩
  lt := fun ⟨h, hF⟩ k hk => h.lt k ((hF k).1 hk)
/-- Pairs name earlier nodes. -/
def Wf (S : List Nd) : Prop := ∀ (k : Nat) (n : Nd), S[k]? = some n → ∀ (p : Value) (i j : Nat), n.pr = some (p, i, j) → i < k ∧ j < k
theorem ndG_app {S T : List Nd} {i : Nat} (h : i < S.length) : ndG (S ++ T) i = ndG S i := by
  unfold ndG
  rw [List.getElem?_append_left h, List.getElem?_eq_getElem h]
  rfl
theorem ndP_app {S T : List Nd} {i : Nat} (h : i < S.length) : ndP (S ++ T) i = ndP S i := by unfold ndP; rw [ndG_app h]
theorem ndG_new {S : List Nd} {n : Nd} : ndG (S ++ [n]) S.length = n := by simp [ndG]
theorem ndG_at {S : List Nd} {i : Nat} {n : Nd} (h : S[i]? = some n) : ndG S i = n := by simp [ndG, h]
theorem ndG_mem {S : List Nd} (h0 : S ≠ []) (i : Nat) : ndG S i ∈ S := by
  unfold ndG
  rcases e : S[i]? with _ | n
  · cases S with
    | nil => exact absurd rfl h0
    | cons a r => simp
  · simpa using List.mem_of_getElem? e
/-- More nodes tell the same of the earlier ones. -/
theorem Lies.more {w : World} {S T U : List Nd} (h : Lies w S T) (hv : ∀ n ∈ T, ∀ p i j, n.pr = some (p, i, j) → i < S.length ∧ j < S.length) : Lies w (S ++ U) T := fun n hn => by
  obtain ⟨h1, h2⟩ := h n hn
  refine ⟨h1, fun p i j e => ?_⟩
  obtain ⟨a, b⟩ := hv n hn p i j e
  rw [ndP_app a, ndP_app b]
  exact h2 p i j e
theorem Wf.bound {S : List Nd} (h : Wf S) : ∀ n ∈ S, ∀ p i j, n.pr = some (p, i, j) → i < S.length ∧ j < S.length := fun n hn p i j e => by
  obtain ⟨k, hk, rfl⟩ := List.mem_iff_getElem.1 hn
  have := h k S[k] (List.getElem?_eq_getElem hk) p i j e
  omega
theorem Wf.snoc {S : List Nd} (h : Wf S) (n : Nd) (hn : ∀ p i j, n.pr = some (p, i, j) → i < S.length ∧ j < S.length) : Wf (S ++ [n]) := fun k m hm p i j e => by
  rcases Nat.lt_trichotomy k S.length with hk | hk | hk
  · rw [List.getElem?_append_left hk] at hm
    exact h k m hm p i j e
  · subst hk
    simp at hm
    subst hm
    exact hn p i j e
  · rw [List.getElem?_eq_none (by simp; omega)] at hm
    cases hm
theorem lies_app {w : World} {S T U : List Nd} : Lies w S (T ++ U) ↔ Lies w S T ∧ Lies w S U := by
  constructor
  · exact fun h => ⟨fun n hn => h n (by simp [hn]), fun n hn => h n (by simp [hn])⟩
  · rintro ⟨h, k⟩ n hn
    rcases List.mem_append.1 hn with hn | hn
    · exact h n hn
    · exact k n hn
theorem ndB_app {T U : List Nd} (k : Nat) : ndB (T ++ U) k ↔ ndB T k ∨ ndB U k := by
  constructor
  · rintro ⟨n, hn, h⟩
    rcases List.mem_append.1 hn with hn | hn
    · exact .inl ⟨n, hn, h⟩
    · exact .inr ⟨n, hn, h⟩
  · rintro (⟨n, hn, h⟩ | ⟨n, hn, h⟩)
    · exact ⟨n, by simp [hn], h⟩
    · exact ⟨n, by simp [hn], h⟩
/-- A coin's block. -/
theorem nd_coin {w : World} {S : List Nd} {b : Nat} {a s : Int} {F : Nat → Prop} (h : (It.blk b (ndC ⟨b, a, s, none⟩)).P w F) : (It.nd S [⟨b, a, s, none⟩]).P w F := by
  obtain ⟨h1, rfl⟩ := h
  refine ⟨fun n hn => ?_, fun k => ?_⟩
  · simp only [List.mem_singleton] at hn
    subst hn
    exact ⟨h1, fun p i j e => by cases e⟩
  · simp [ndB]
/-- A package's two blocks. -/
theorem nd_pack {w : World} {S : List Nd} {b i j : Nat} {a s : Int} {p : Value} {F G : Nat → Prop} (h : (It.own 61 1 p 2 [ndP S i, ndP S j]).P w F) (k : (It.blk b (ndC ⟨b, a, s, some (p, i, j)⟩)).P w G) :
    (It.nd S [⟨b, a, s, some (p, i, j)⟩]).P w (fun k => F k ∨ G k) := by
  obtain ⟨h1, rfl⟩ := h
  obtain ⟨k1, rfl⟩ := k
  refine ⟨fun n hn => ?_, fun k => ?_⟩
  · simp only [List.mem_singleton] at hn
    subst hn
    refine ⟨k1, fun p' i' j' e => ?_⟩
    simp only [Option.some.injEq, Prod.mk.injEq] at e
    obtain ⟨rfl, rfl, rfl⟩ := e
    exact h1
  · simp [ndB, or_comm]
/-- Nodes and a new one. -/
theorem nd_join {w : World} {S S' T U : List Nd} {F G : Nat → Prop} (h : (It.nd S T).P w F) (k : (It.nd S' U).P w G) (hm : Lies w S T → Lies w S' T) : (It.nd S' (T ++ U)).P w (fun k => F k ∨ G k) :=
  ⟨lies_app.2 ⟨hm h.1, k.1⟩, fun x => by
    show (F x ∨ G x) ↔ _
    rw [h.2 x, k.2 x, ndB_app]⟩
theorem Lies.cells {w : World} {S T : List Nd} (h : Lies w S T) {n : Nd} (hn : n ∈ T) : w.cell? ⟨n.b, 0, none⟩ = some (.int .i64 n.wt) ∧ w.cell? ⟨n.b, 1, none⟩ = some (.int .i64 n.sy) ∧ w.cell? ⟨n.b, 2, none⟩ = some (ndV n) := by
  obtain ⟨⟨el, h1⟩, _⟩ := h n hn
  refine ⟨?_, ?_, ?_⟩ <;> rw [cell_blk h1] <;> rfl
theorem Lies.same {w w' : World} {S T : List Nd} (h : Lies w S T) (m : Mod none' w w') : Lies w' S T := h.st m (fun _ _ h => h)

end Go.Proofs.Ytgjnfajdejkkjaa.VG
