/-
  A tape of numbers; planes made of it.
-/
import Derived.Test.YtfanamibkgkaiaaDoorKe
namespace Go.Proofs.YtfanamibkgkaiaaDoor.VG
open Go
set_option linter.unusedSimpArgs false
set_option linter.unusedVariables false
set_option maxRecDepth 20000

/-- A tape over n numbers, read up to some place. -/
def It.tp (t : Nat) (v : Value) (n : Nat) : It where
  P w F := (∃ (a : Nat) (el : TypeId), a ≤ n ∧ w.heap[t]? = some (.cells #[v, .int .i64 a] el (0, 0))) ∧ F = fun k => k = t
  st := fun ⟨⟨a, el, ha, h⟩, hF⟩ m d => ⟨⟨a, el, ha, m.heap h (d t (by rw [hF]))⟩, hF⟩
  lt := fun ⟨⟨a, el, ha, h⟩, hF⟩ k hk => by rw [hF] at hk; rw [hk]; exact heap_lt h
def Tp (w : World) (t : Nat) (v : Value) (n : Nat) : Prop := (It.tp t v n).P w (fun k => k = t)
theorem tp_only {t n : Nat} {v : Value} {w : World} (F' : Nat → Prop) (h : (It.tp t v n).P w F') : F' = fun k => k = t := h.2
/-- A tape goes on. -/
def TpA (w : World) (t : Nat) (v : Value) (n : Nat) (w' : World) : Prop := Tp w' t v n ∧ Mod (fun k => k = t) w w'
theorem Hp.tp {W w : World} {l : List It} (h : Hp W w l) (j : Nat) {t n : Nat} {v : Value} (hj : l[j]? = some (.tp t v n)) :
    Tp w t v n ∧ W.heap.size ≤ t ∧ (∀ w' R, TpA w t v n w' → (∃ Gs, Sep w.heap.size w' R Gs) → Hp W w' (l.set j (.tp t v n) ++ R)) ∧ ∀ w', TpA w t v n w' → Hp W w' (l.set j (.tp t v n)) := by
  obtain ⟨F, ⟨h1, rfl⟩, h2, h4⟩ := h.upR j hj
  refine ⟨⟨h1, rfl⟩, h2 t rfl, fun w' R ⟨q1, q2⟩ hR => h4 _ w' _ R q2 q1 (fun k hk => hk) hR, fun w' ⟨q1, q2⟩ => ?_⟩
  have := h4 _ w' _ [] q2 q1 (fun k hk => hk) ⟨[], trivial⟩
  rwa [List.append_nil] at this

theorem next_c {G : Nat → Prop} {w : World} {t : Nat} {v : Value} {l : List Int} (h : Tp w t v l.length) (hr : Rd G w v l.length (intsV l)) (hg : ¬ G t) (hl : l.length ≤ maxLen) (n : Int) (hn : n ≤ 9223372036854775807) :
    Calls Tryd.prog 26 [.pointer (some ⟨t, 0, none⟩), .int .i64 n].toArray w (Ret fun r w' => ∃ k : Int, r = .int .i64 k ∧ 0 ≤ k ∧ (1 ≤ n → k < n) ∧ TpA w t v l.length w') := by
  refine F_sound c26 (by simp [fc26]) ?_
  obtain ⟨⟨a, el, ha, hb⟩, _⟩ := id h
  obtain ⟨hS, hL⟩ := hr.sl
  have c0 := cell_blk hb 0
  have c1 := cell_blk hb 1
  simp at c0 c1
  have ha1 : (l.length : Int) ≤ 9223372036854775807 := by unfold maxLen at hl; omega
  simp [fc26, s26, c0, c1, hS, hL]
  by_cases hend : l.length ≤ a ∨ n < 1
  · refine ite_r (t := true) (by simp; omega) (fun _ => ?_) (fun h => by cases h)
    simp
    exact ⟨by omega, ⟨⟨a, el, ha, hb⟩, rfl⟩, (Mod.refl _ _).drew⟩
  refine ite_r (t := false) (by simp; omega) (fun h => by cases h) (fun _ => ?_)
  have hw1 : IntKind.i64.wrap ((a : Int) + 1) = (a : Int) + 1 := wI (by omega) (by omega)
  simp [c0, c1]
  refine st_r (o := 1) (v := .int .i64 ((a : Int) + 1)) (by simp) (by simp [hw1]) hb (by simp) (by simp) ?_
  intro w1 h2 hm0 _
  have hm : Mod (fun k => k = t) w w1 := ((Mod.refl _ w).drew).tr hm0
  refine ⟨by trivial, ?_⟩
  have d0 := cell_blk h2 0
  have d1 := cell_blk h2 1
  simp at d0 d1
  have hr1 := hr.mod hm (fun k hk hk' => hg (hk' ▸ hk))
  have hg1 := hr1.gi a (by omega)
  have hp1 := hr1.some (by omega)
  have hw2 : IntKind.i64.wrap (a : Int) = (a : Int) := wI (by omega) (by omega)
  have hal : a < l.length := by omega
  simp [d0, d1, hS, hL, hw2, hg1, hp1, hal]
  refine callp (within_c (gi l a) 0 1073741824 (by omega) (by omega) (by omega)) (by simp) ?_
  have hwb := with_bd (n := gi l a) (lo := 0) (hi := 1073741824) (by omega)
  have ht : (withI (gi l a) 0 1073741824).tmod n = withI (gi l a) 0 1073741824 % n := Int.tmod_eq_emod_of_nonneg hwb.1
  have hm1 := Int.emod_nonneg (withI (gi l a) 0 1073741824) (show n ≠ 0 by omega)
  have hm2 := Int.emod_lt_of_pos (withI (gi l a) 0 1073741824) (show 0 < n by omega)
  simp [ht]
  exact ⟨by omega, hm1, by omega, ⟨⟨a + 1, el, by omega, by simpa using h2⟩, rfl⟩, hm.drew⟩

theorem tnew_c {w : World} {v : Value} (n : Nat) (h1c : v.cells = #[v]) : Calls Tryd.prog 14 [v].toArray w (Ret fun r w' => ∃ t, r = .pointer (some ⟨t, 0, none⟩) ∧ Hp w w' [.tp t v n]) := by
  refine F_sound c14 (by simp [fc14]) ?_
  simp [fc14, s14, h1c]
  refine box_r (.agg #[v, .int .i64 0]) (by simp [putAt, h1c]) ?_
  intro t w' ht hh hm _
  refine ⟨by trivial, ?_⟩
  simp
  have hc : (Value.agg #[v, .int .i64 0]).cells = #[v, .int .i64 0] := by simp [Value.cells, h1c]
  rw [hc] at hh
  exact (Hp.nil w).add (i := .tp t v n) (F := fun k => k = t) hm ⟨⟨0, _, Nat.zero_le _, hh⟩, rfl⟩ (fun k hk => by omega)
/-- A plane that is made of a tape: so many samples of so many bits. -/
def IsPl (p : List Int) (N : Nat) (d : Int) : Prop := p.length = N ∧ ∀ x ∈ p, 0 ≤ x ∧ x < p2 d
theorem IsPl.snoc {p : List Int} {i : Nat} {d x : Int} (h : IsPl p i d) (h0 : 0 ≤ x) (h1 : x < p2 d) : IsPl (p ++ [x]) (i + 1) d := by
  refine ⟨by simp [h.1], fun y hy => ?_⟩
  rcases List.mem_append.1 hy with hy | hy
  · exact h.2 y hy
  · simp only [List.mem_singleton] at hy; subst hy; exact ⟨h0, h1⟩

end Go.Proofs.YtfanamibkgkaiaaDoor.VG
