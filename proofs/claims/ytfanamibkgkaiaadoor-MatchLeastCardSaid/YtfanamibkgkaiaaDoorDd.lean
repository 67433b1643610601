/-
  Match: tokens that may be.
-/
import Derived.Test.YtfanamibkgkaiaaDoorDc
namespace Go.Proofs.YtfanamibkgkaiaaDoor.VG
open Go
set_option linter.unusedSimpArgs false
set_option linter.unusedVariables false
set_option maxRecDepth 20000

theorem Hp.shutW {w w' : World} {i : It} {F : Nat → Prop} {R : List It} (h : Hp (bare w) w' (i :: .old w F :: R)) :
    Mod F w w' ∧ ∃ F', i.P w' F' ∧ ∀ k, F' k → F k ∨ w.heap.size ≤ k := by
  obtain ⟨Fs, hs⟩ := h.sep
  rcases Fs with _ | ⟨F1, _ | ⟨F2, Gs⟩⟩
  · exact hs.elim
  · exact hs.2.2.2.elim
  obtain ⟨h1, _, h3, ⟨e2, h5, h6⟩, _, h8, h9⟩ := hs
  subst e2
  refine ⟨⟨h.mod.os, h.mod.tape, h.mod.output, h5, fun k hk hn => h6 k hk hn⟩, F1, h1, fun k hk => ?_⟩
  rcases Nat.lt_or_ge k w.heap.size with hlt | hge
  · by_cases hF : F k
    · exact .inl hF
    · exact absurd ⟨hlt, hF⟩ (h3 _ (List.mem_cons_self ..) k hk)
  · exact .inr hge
theorem blk3 {w : World} {t : Nat} {a b c : Value} (h : ∀ o, w.cell? ⟨t, o, none⟩ = (#[a, b, c] : Array Value)[o]?) : (cellsFrom w ⟨t, 0, none⟩ 0 3).toArray = #[a, b, c] ∧ (∀ j, j < 3 → (w.cell? ⟨t, j, none⟩).isSome = true) ∧ w.cell? ⟨t, 0, none⟩ = some a ∧ w.cell? ⟨t, 1, none⟩ = some b ∧ w.cell? ⟨t, 2, none⟩ = some c := by
  have h0 : w.cell? ⟨t, 0, none⟩ = some a := by rw [h 0]; rfl
  have h1 : w.cell? ⟨t, 1, none⟩ = some b := by rw [h 1]; rfl
  have h2 : w.cell? ⟨t, 2, none⟩ = some c := by rw [h 2]; rfl
  refine ⟨cells_blk h 3 rfl, fun j hj => ?_, h0, h1, h2⟩
  obtain rfl | rfl | rfl : j = 0 ∨ j = 1 ∨ j = 2 := by omega
  · rw [h0]; rfl
  · rw [h1]; rfl
  · rw [h2]; rfl
def litB (t : Int × Int × Int) : Bool := t.1 == 0 && t.2.1 == 0
def copyB (t : Int × Int × Int) : Bool := decide (3 ≤ t.1) && decide (t.1 ≤ 64) && decide (1 ≤ t.2.1) && decide (t.2.1 ≤ 1024) && t.2.2 == 0
def mayT (l : List (Int × Int × Int)) : Bool := l.all fun t => litB t || copyB t
theorem mayT_take {l : List (Int × Int × Int)} {i : Nat} {t : Int × Int × Int} (h : mayT (l.take i) = true) (hi : l[i]? = some t) : mayT (l.take (i + 1)) = (litB t || copyB t) := by
  rw [mayT, List.take_add_one, hi]
  rw [mayT] at h
  simp [h]
theorem mayT_not {l : List (Int × Int × Int)} {i : Nat} {t : Int × Int × Int} (hi : l[i]? = some t) (h : (litB t || copyB t) = false) : mayT l = false := by
  rw [mayT, List.all_eq_false]
  exact ⟨t, List.mem_of_getElem? hi, by simp [h]⟩

set_option maxHeartbeats 2000000 in
theorem isLit_c {w : World} (t : Int × Int × Int) : Calls Tryd.prog 33 [tokV t].toArray w (Ret fun r w' => r = .bool (litB t) ∧ Mod none' w w') := by
  refine F_sound c33 (by simp [fc33]) ?_
  simp [fc33, s33]
  refine box_h (tokV t) (Hp.nil w) (by simp) ?_
  intro b w1 H M1
  refine ⟨.inl rfl, ?_⟩
  obtain ⟨_, _, c0, c1, c2⟩ := blk3 (H.blk 0 rfl)
  simp [c0, c1, c2, litB]
  exact H.mod

set_option maxHeartbeats 2000000 in
theorem isCopy_c {w : World} (t : Int × Int × Int) : Calls Tryd.prog 34 [tokV t].toArray w (Ret fun r w' => r = .bool (copyB t) ∧ Mod none' w w') := by
  refine F_sound c34 (by simp [fc34]) ?_
  simp [fc34, s34]
  refine box_h (tokV t) (Hp.nil w) (by simp) ?_
  intro b w1 H M1
  refine ⟨.inl rfl, ?_⟩
  obtain ⟨_, _, c0, c1, c2⟩ := blk3 (H.blk 0 rfl)
  simp [c0, c1, c2, copyB]
  exact H.mod

structure TokAt (w : World) (v : Value) (i : Nat) (t : Int × Int × Int) : Prop where
  c0 : w.cell? ((slB v).add (i * 3)) = some (.int .i64 t.1)
  c1 : w.cell? (((slB v).add (i * 3)).add 1) = some (.int .i64 t.2.1)
  c2 : w.cell? (((slB v).add (i * 3)).add 2) = some (.int .i64 t.2.2)
  cs : cellsFrom w ((slB v).add (i * 3)) 0 3 = tokC t
  ok : ∀ j, j < 3 → (w.cell? (((slB v).add (i * 3)).add j)).isSome = true
theorem tok_at {G : Nat → Prop} {w : World} {v : Value} {T : List (Int × Int × Int)} (h : Rd G w v T.length (toksV T)) {i : Nat} {t : Int × Int × Int} (hi : T[i]? = some t) : TokAt w v i t := by
  obtain ⟨g0, g1, g2⟩ := toksV_get T i t hi
  have c0 := h.cell _ _ g0
  have c1 := h.cell _ _ g1
  have c2 := h.cell _ _ g2
  rw [← add_add] at c1 c2
  refine ⟨c0, c1, c2, ?_, ?_⟩
  · simp [cellsFrom, c0, c1, c2, tokC]
  · intro j hj
    obtain rfl | rfl | rfl : j = 0 ∨ j = 1 ∨ j = 2 := by omega
    · rw [add_zero, c0]; rfl
    · rw [c1]; rfl
    · rw [c2]; rfl
theorem tok_ptr {G : Nat → Prop} {w : World} {v : Value} {T : List (Int × Int × Int)} (h : Rd G w v T.length (toksV T)) (hl : 0 < T.length) : (slA v).isSome = true := (h.ptr (by rw [toksV_len]; omega)).1
theorem info47 : ∃ i, Tryd.prog.info? 47 = some i ∧ i.zero = some (tokV (0, 0, 0)) := ⟨_, rfl, rfl⟩

section
variable {G : Nat → Prop} {w : World} {v : Value} {T : List (Int × Int × Int)}
set_option maxHeartbeats 4000000 in
theorem may_c (h : Rd G w v T.length (toksV T)) (hl : T.length ≤ 1000000) : Calls Tryd.prog 21 [v].toArray w (Ret fun r w' => r = .bool (mayT T) ∧ Mod none' w w') := by
  refine F_sound c21 (by simp [fc21]) ?_
  obtain ⟨hS, hL⟩ := h.sl
  obtain ⟨i3, hi3, hz3⟩ := info47
  simp [fc21, s21, hS, hL]
  refine for_r T.length (fun i env' w' => env' 5 = v ∧ env' 6 = .int .i64 T.length ∧ env' 7 = .int .i64 i ∧ mayT (T.take i) = true ∧ Mod none' w w') ?_ ?_ ?_
  · simp [mayT, Mod.refl]
  · rintro i env w1 hi ⟨e5, e6, e7, hm, M1⟩
    have wi : IntKind.i64.wrap ((i : Int) + 1) = ((i + 1 : Nat) : Int) := by rw [wI (by omega) (by omega)]; omega
    obtain ⟨t, ht⟩ : ∃ t, T[i]? = some t := ⟨T[i], List.getElem?_eq_getElem hi⟩
    have ta := tok_at (h.at M1) ht
    have tp := tok_ptr h (by omega)
    have hstep := mayT_take hm ht
    simp [e6, e7]
    refine ite_r (t := true) (by simp; omega) (fun _ => ?_) (fun h => by cases h)
    simp [wp_blk, e5, e7, hS, hL, hi, tp, ta.cs, ta.ok]
    refine ⟨ta.ok, ?_⟩
    refine alloc_h (Hp.ofMod M1) hi3 hz3 ?_
    intro b w2 H M2
    refine ⟨.inl rfl, ?_⟩
    refine stAll_h 0 H rfl (v := tokV t) rfl (by simp [tokC, tokV]) rfl rfl (tokC_one t) ?_
    intro w3 H
    refine ⟨.inl rfl, ?_⟩
    obtain ⟨d, dok, _⟩ := blk3 (H.blk 0 rfl)
    simp [d]
    refine ⟨dok, ?_⟩
    refine callm (isLit_c t) (by simp [tokV]) ?_
    intro w4 M4
    replace H := H.same M4
    simp
    cases hlit : litB t
    · simp
      obtain ⟨d, dok, _⟩ := blk3 (H.blk 0 rfl)
      simp [d]
      refine ⟨dok, ?_⟩
      refine ifg_r (t := true) (by simp) (fun _ => ?_) (fun h => (h rfl).elim)
      refine callm (isCopy_c t) (by simp [tokV]) ?_
      intro w5 M5
      replace H := H.same M5
      simp
      cases hcp : copyB t
      · have hno := mayT_not ht (by rw [hlit, hcp]; rfl)
        simp
        refine ite_r (t := true) (by simp) (fun _ => ?_) (fun h => by cases h)
        simp [hno]
        exact H.mod
      · simp
        refine ite_r (t := false) (by simp) (fun h => by cases h) (fun _ => ?_)
        simp [-Int.natCast_add, e5, e6, e7, wi]
        refine ⟨by omega, by rw [hstep, hlit, hcp]; rfl, H.mod⟩
    · simp
      refine ifg_r (t := false) (by simp) (fun h => by cases h) (fun _ => ?_)
      simp
      refine ite_r (t := false) (by simp) (fun h => by cases h) (fun _ => ?_)
      simp [-Int.natCast_add, e5, e6, e7, wi]
      refine ⟨by omega, by rw [hstep, hlit]; rfl, H.mod⟩
  · rintro env w1 ⟨e5, e6, e7, hm, M1⟩
    rw [List.take_length] at hm
    simp [e6, e7]
    refine ite_r (t := false) (by simp) (fun h => by cases h) (fun _ => ?_)
    simp [hm]
    exact M1

def sumT (lit cp : Int) : List (Int × Int × Int) → Int
  | [] => 0
  | t :: r => (if litB t = true then lit else cp) + sumT lit cp r
theorem sumT_app (lit cp : Int) : ∀ a b, sumT lit cp (a ++ b) = sumT lit cp a + sumT lit cp b
  | [], b => by simp [sumT]
  | t :: a, b => by rw [List.cons_append, sumT, sumT, sumT_app lit cp a b]; omega
theorem sumT_bd {lit cp : Int} (h0 : 0 ≤ lit) (h1 : lit ≤ 1048576) (h2 : 0 ≤ cp) (h3 : cp ≤ 1048576) : ∀ l, 0 ≤ sumT lit cp l ∧ sumT lit cp l ≤ 1048576 * l.length
  | [] => by simp [sumT]
  | t :: r => by
    have := sumT_bd h0 h1 h2 h3 r
    rw [sumT, List.length_cons]
    split <;> omega
def costBad (lit cp : Int) : Bool := decide (lit < 0) || decide (1048576 < lit) || decide (cp < 0) || decide (1048576 < cp)
def costT (T : List (Int × Int × Int)) (lit cp : Int) : Int := if costBad lit cp = true ∨ mayT T = false then 0 else sumT lit cp T

set_option maxHeartbeats 4000000 in
theorem cost_c (h : Rd G w v T.length (toksV T)) (hl : T.length ≤ 1000000) (lit cp : Int) : Calls Tryd.prog 19 [v, .int .i64 lit, .int .i64 cp].toArray w (Ret fun r w' => r = .int .i64 (costT T lit cp) ∧ Mod none' w w') := by
  refine F_sound c19 (by simp [fc19]) ?_
  obtain ⟨hS, hL⟩ := h.sl
  obtain ⟨i3, hi3, hz3⟩ := info47
  simp [fc19, s19, hS, hL]
  have hcb : (decide (lit < 0) || decide (1048576 < lit) || decide (cp < 0) || decide (1048576 < cp)) = costBad lit cp := rfl
  rw [hcb]
  cases hb : costBad lit cp
  rotate_left
  · have hv : costT T lit cp = 0 := by rw [costT, if_pos (.inl hb)]
    rw [hv]
    refine ifg_r (t := true) (by simp) (fun h => by cases h) (fun _ => ?_)
    simp
    refine ite_r (t := true) (by simp) (fun _ => ?_) (fun h => by cases h)
    simp [Mod.refl]
  refine ifg_r (t := false) (by simp) (fun _ => ?_) (fun h => (h rfl).elim)
  refine callm (may_c h hl) (by simp) ?_
  intro w1 M1
  cases hmay : mayT T
  · have hv : costT T lit cp = 0 := by rw [costT, if_pos (.inr hmay)]
    rw [hv]
    simp
    refine ite_r (t := true) (by simp) (fun _ => ?_) (fun h => by cases h)
    simp
    exact M1
  have hv : costT T lit cp = sumT lit cp T := by rw [costT, if_neg (by simp [hb, hmay])]
  obtain ⟨⟨⟨h0, h1⟩, h2⟩, h3⟩ : ((0 ≤ lit ∧ lit ≤ 1048576) ∧ 0 ≤ cp) ∧ cp ≤ 1048576 := by simp [costBad] at hb; omega
  rw [hv]
  simp
  refine ite_r (t := false) (by simp) (fun h => by cases h) (fun _ => ?_)
  simp [hS, hL]
  refine for_r T.length (fun i env' w' => env' 1 = .int .i64 lit ∧ env' 2 = .int .i64 cp ∧ env' 7 = .int .i64 (sumT lit cp (T.take i)) ∧ env' 29 = v ∧ env' 30 = .int .i64 T.length ∧ env' 31 = .int .i64 i ∧ Mod none' w w') ?_ ?_ ?_
  · simp [sumT]
    exact M1
  · clear M1
    rintro i env w1 hi ⟨e1, e2, e7, e29, e30, e31, M1⟩
    have wi : IntKind.i64.wrap ((i : Int) + 1) = ((i + 1 : Nat) : Int) := by rw [wI (by omega) (by omega)]; omega
    obtain ⟨t, ht⟩ : ∃ t, T[i]? = some t := ⟨T[i], List.getElem?_eq_getElem hi⟩
    have ta := tok_at (h.at M1) ht
    have tp := tok_ptr h (by omega)
    have hsum : sumT lit cp (T.take (i + 1)) = sumT lit cp (T.take i) + (if litB t = true then lit else cp) := by
      rw [List.take_add_one, ht, sumT_app]
      simp [sumT]
    have hbd := sumT_bd h0 h1 h2 h3 (T.take i)
    have hbl : (T.take i).length ≤ 1000000 := by simp; omega
    generalize sumT lit cp (T.take i) = S at *
    simp [e30, e31]
    refine ite_r (t := true) (by simp; omega) (fun _ => ?_) (fun h => by cases h)
    simp [wp_blk, e29, e31, hS, hL, hi, tp, ta.cs, ta.ok]
    refine ⟨ta.ok, ?_⟩
    refine alloc_h (Hp.ofMod M1) hi3 hz3 ?_
    intro b w2 H M2
    refine ⟨.inl rfl, ?_⟩
    refine stAll_h 0 H rfl (v := tokV t) rfl (by simp [tokC, tokV]) rfl rfl (tokC_one t) ?_
    intro w3 H
    refine ⟨.inl rfl, ?_⟩
    obtain ⟨d, dok, _⟩ := blk3 (H.blk 0 rfl)
    simp [d]
    refine ⟨dok, ?_⟩
    refine callm (isLit_c t) (by simp [tokV]) ?_
    intro w4 M4
    replace H := H.same M4
    cases hlit : litB t
    · rw [hlit] at hsum
      have ws : IntKind.i64.wrap (S + cp) = S + cp := wI (by omega) (by omega)
      refine ite_r (t := false) (by simp) (fun h => by cases h) (fun _ => ?_)
      simp [-Int.natCast_add, e1, e2, e7, e29, e30, e31, wi, ws, hsum]
      exact ⟨by omega, H.mod⟩
    · rw [hlit] at hsum
      have ws : IntKind.i64.wrap (S + lit) = S + lit := wI (by omega) (by omega)
      refine ite_r (t := true) (by simp) (fun _ => ?_) (fun h => by cases h)
      simp [-Int.natCast_add, e1, e2, e7, e29, e30, e31, wi, ws, hsum]
      exact ⟨by omega, H.mod⟩
  · rintro env w1 ⟨e1, e2, e7, e29, e30, e31, M1⟩
    rw [List.take_length] at e7
    simp [e30, e31]
    refine ite_r (t := false) (by simp) (fun h => by cases h) (fun _ => ?_)
    simp [e7]
    exact M1
end

end Go.Proofs.YtfanamibkgkaiaaDoor.VG
