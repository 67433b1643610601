/-
  Match: tokens, greedy ones.
-/
import Derived.Test.YtfanamibkgkaiaaDoorDb
namespace Go.Proofs.YtfanamibkgkaiaaDoor.VG
open Go
set_option linter.unusedSimpArgs false
set_option linter.unusedVariables false
set_option maxRecDepth 20000

section
variable {P : Program} {Q : Exit → Env → World → Prop} {env : Env} {w W : World} {k : S} {l : List It}
/-- append(own, x) of one element of any number of cells. -/
theorem appN_h {b : Nat} {x : Option Nat} {t e : TypeId} {size bytes : Nat} (T : SlT P t e size bytes) {s : Nat} {o : Operand} {ty ty1 : TypeId} {m m1 : List (Nat × E)} {pr pr1 : List PrE} {v u : Value} {n : Nat} {xs : List Value} (j : Nat)
    (h : Hp W w l) (hj : l[j]? = some (.own e size v n xs)) (hs0 : size ≤ 1000) (h1 : u.cells.size = size) (h2 : ∀ y ∈ u.cells.toList, y.oneCell' = true) (h47 : (n + 1) * bytes ≤ 140737488355328) (hm : n + 1 ≤ maxLen)
    (ho : rhoOf m1 env w o = u) (hs : ∀ v' w', rhoOf m (upd env b v') w' (.tmp s) = v) (hx : ∀ v' w', rhoOf m (upd env b v') w' (.tmp b) = v')
    (hp1 : pr1 = [] ∨ ∀ w', Mod none' w w' → promsOk pr1 env w w')
    (hk : ∀ vb v' w1 w', Mod none' w w1 → Hp W w' (l.set j (.own e size v' (n + 1) (xs ++ u.cells.toList))) → (pr = [] ∨ promsOk pr (upd env b vb) w1 w') ∧ k.wp P Q (updo (upd env b vb) x v') w') :
    (S.op (some b) (.buildSlice t 1 #[(0, o)]) ty1 m1 pr1 (.op x (.call ⟨.builtin .append, #[.tmp s, .tmp b], #[t, t]⟩) ty m pr k)).wp P Q env w := by
  refine bs_h T [u] h rfl (by omega) (by simp [ho]) (by simpa using h1) ?_
  intro vb w1 H M1
  refine ⟨?_, ?_⟩
  · rcases hp1 with h | h
    · exact .inl h
    · exact .inr (h w1 M1)
  have hjl : j < l.length := (List.getElem?_eq_some_iff.1 hj).1
  have e0 : ([u].flatMap fun e => e.cells.toList) = u.cells.toList := by simp
  rw [e0] at H
  refine app_h T j H (by rw [List.getElem?_append_left hjl]; exact hj) (H.rd (e := e) (size := size) l.length (by simp)) (by simpa using h1) h2 h47 hm (hs _ _) (hx _ _) ?_
  intro v' w' H'
  have hset : (l ++ [It.own e size vb 1 u.cells.toList]).set j (.own e size v' (n + 1) (xs ++ u.cells.toList)) = l.set j (.own e size v' (n + 1) (xs ++ u.cells.toList)) ++ [It.own e size vb 1 u.cells.toList] := by
    rw [List.set_append_left _ _ hjl]
  rw [hset] at H'
  have H2 := H'.drop l.length
  rw [List.eraseIdx_append_of_length_le (by simp)] at H2
  simp at H2
  exact hk vb v' w1 w' M1 H2
end

def tokC (t : Int × Int × Int) : List Value := [.int .i64 t.1, .int .i64 t.2.1, .int .i64 t.2.2]
def tokV (t : Int × Int × Int) : Value := .agg #[.int .i64 t.1, .int .i64 t.2.1, .int .i64 t.2.2]
def toksV (l : List (Int × Int × Int)) : List Value := l.flatMap tokC
theorem toksV_len : ∀ l : List (Int × Int × Int), (toksV l).length = l.length * 3
  | [] => rfl
  | t :: r => by
    have := toksV_len r
    simp only [toksV, List.flatMap_cons, List.length_append, List.length_cons] at this ⊢
    simp only [tokC, List.length_cons, List.length_nil]
    omega
theorem toksV_snoc (l : List (Int × Int × Int)) (t : Int × Int × Int) : toksV l ++ tokC t = toksV (l ++ [t]) := by simp [toksV]
theorem toksV_one (l : List (Int × Int × Int)) : ∀ y ∈ toksV l, y.oneCell' = true := by
  intro y hy
  simp only [toksV, List.mem_flatMap] at hy
  obtain ⟨t, _, ht⟩ := hy
  simp only [tokC, List.mem_cons, List.not_mem_nil, or_false] at ht
  rcases ht with rfl | rfl | rfl <;> rfl
theorem toksV_get : ∀ (l : List (Int × Int × Int)) (i : Nat) (t : Int × Int × Int), l[i]? = some t → (toksV l)[i * 3]? = some (.int .i64 t.1) ∧ (toksV l)[i * 3 + 1]? = some (.int .i64 t.2.1) ∧ (toksV l)[i * 3 + 2]? = some (.int .i64 t.2.2)
  | [], i, t, h => by simp at h
  | a :: r, 0, t, h => by
    simp only [List.getElem?_cons_zero, Option.some.injEq] at h
    subst h
    exact ⟨rfl, rfl, rfl⟩
  | a :: r, i + 1, t, h => by
    simp only [List.getElem?_cons_succ] at h
    have := toksV_get r i t h
    have e : toksV (a :: r) = tokC a ++ toksV r := by simp [toksV]
    have hl : (tokC a).length = 3 := rfl
    rw [e, List.getElem?_append_right (by omega), List.getElem?_append_right (by omega), List.getElem?_append_right (by omega), hl]
    rw [show (i + 1) * 3 - 3 = i * 3 by omega, show (i + 1) * 3 + 1 - 3 = i * 3 + 1 by omega, show (i + 1) * 3 + 2 - 3 = i * 3 + 2 by omega]
    exact this
def OwnT (w w' : World) (r : Value) (l : List (Int × Int × Int)) : Prop := Hp w w' [.own 47 3 r l.length (toksV l)]
theorem OwnT.nil {w w' : World} (m : Mod none' w w') : OwnT w w' (.slice none 0 0) [] := (Hp.ofMod m).nilS
theorem slTT : SlT Tryd.prog 32 47 3 24 := ⟨by kernel_rfl, ⟨_, _, rfl, rfl, rfl, rfl, rfl⟩, by omega⟩
theorem tokV_cells (t : Int × Int × Int) : (tokV t).cells.toList = tokC t := rfl
theorem tokC_one (t : Int × Int × Int) : ∀ y ∈ (tokV t).cells.toList, y.oneCell' = true := by
  intro y hy
  rw [tokV_cells] at hy
  simp only [tokC, List.mem_cons, List.not_mem_nil, or_false] at hy
  rcases hy with rfl | rfl | rfl <;> rfl

def gT (l : List Int) : Nat → Nat → List (Int × Int × Int)
  | 0, _ => []
  | f + 1, a => if a < l.length then (if (longN l a).1 = 0 then (0, 0, gi l a) :: gT l f (a + 1) else (((longN l a).1 : Int), ((longN l a).2 : Int), 0) :: gT l f (a + (longN l a).1)) else []
theorem gT_fuel (l : List Int) : ∀ f f' a, l.length - a ≤ f → l.length - a ≤ f' → gT l f a = gT l f' a
  | 0, f', a, h, _ => by
    cases f' with
    | zero => rfl
    | succ f' => rw [gT, gT, if_neg (by omega)]
  | f + 1, 0, a, _, h => by rw [gT, gT, if_neg (by omega)]
  | f + 1, f' + 1, a, h, h' => by
    rw [gT, gT]
    by_cases ha : a < l.length
    · rw [if_pos ha, if_pos ha]
      by_cases h0 : (longN l a).1 = 0
      · rw [if_pos h0, if_pos h0, gT_fuel l f f' (a + 1) (by omega) (by omega)]
      · rw [if_neg h0, if_neg h0, gT_fuel l f f' (a + (longN l a).1) (by omega) (by omega)]
    · rw [if_neg ha, if_neg ha]
def greedyL (l : List Int) : List (Int × Int × Int) := gT l l.length 0
theorem gT_len (l : List Int) : ∀ f a, (gT l f a).length ≤ f
  | 0, a => by simp [gT]
  | f + 1, a => by
    rw [gT]
    split
    · split
      · have := gT_len l f (a + 1); simp; omega
      · have := gT_len l f (a + (longN l a).1); simp; omega
    · simp

def GInv (w : World) (v : Value) (l : List Int) (m : Nat) (env' : Env) (w' : World) : Prop := ∃ (a : Nat) (T : List (Int × Int × Int)), m = l.length - a ∧ a ≤ l.length + 64 ∧ env' 0 = v ∧ env' 4 = .int .i64 a ∧ greedyL l = T ++ gT l (l.length - a) a ∧ OwnT w w' (env' 3) T

set_option maxHeartbeats 4000000 in
theorem greedy_c {G : Nat → Prop} {w : World} {v : Value} {l : List Int} (hr : Rd G w v l.length (intsV l)) (hl : l.length ≤ 1000000) :
    Calls Tryd.prog 16 [v].toArray w (Ret fun r w' => OwnT w w' r (greedyL l)) := by
  refine F_sound c16 (by simp [fc16]) ?_
  obtain ⟨hS, hL⟩ := hr.sl
  simp [fc16, s16]
  have H : Hp w w [.own 47 3 (.slice none 0 0) 0 []] := (Hp.nil w).nilS
  refine loop_r (fun m env' w' => GInv w v l m env' w') l.length ?_ ?_
  · exact ⟨0, [], rfl, by omega, by simp, by simp, rfl, H⟩
  · rintro m env w1 ⟨a, T, rfl, ha, e0, e4, hg, H⟩
    have hTl : T.length ≤ l.length := by
      have := gT_len l l.length 0
      have h2 : greedyL l = gT l l.length 0 := rfl
      rw [← h2, hg, List.length_append] at this
      omega
    by_cases hal : a < l.length
    · simp [e0, e4, hS, hL]
      refine ite_r (t := true) (by simp; omega) (fun _ => ?_) (fun h => by cases h)
      simp [wp_blk]
      refine callm (long_c (hr.at H.mod) hl a) (by simp [e0, e4]) ?_
      intro w2 M2
      rw [longI_nat hal]
      replace H := H.same M2
      have hb := longN_bd l a
      obtain ⟨f, hf⟩ : ∃ f, l.length - a = f + 1 := ⟨l.length - a - 1, by omega⟩
      rw [hf, gT, if_pos hal] at hg
      generalize hp : longN l a = p at *
      obtain ⟨n, d⟩ := p
      simp [two]
      generalize hrv : env 3 = rv at *
      by_cases h0 : n = 0
      · subst h0
        simp only [if_true] at hg
        have hc := (hr.at H.mod).gi a hal
        have hp := hr.some (by omega)
        have w1' : IntKind.i64.wrap ((a : Int) + 1) = ((a + 1 : Nat) : Int) := by rw [wI (by omega) (by omega)]; omega
        refine ite_r (t := true) (by simp) (fun _ => ?_) (fun h => by cases h)
        simp [e0, e4, hS, hL, hal, hc, hp, Value.cells]
        refine appN_h slTT 0 H rfl (u := tokV (0, 0, gi l a)) (by omega) rfl (tokC_one _) (by omega) (by unfold maxLen; omega) (by simp [tokV, putAt, Value.cells]) (by simp [hrv]) (by simp) (.inl rfl) ?_
        intro vb v' w5 w6 _ H
        refine ⟨.inl rfl, ?_⟩
        simp [-Int.natCast_add, e4, w1']
        refine ⟨f, by omega, a + 1, T ++ [(0, 0, gi l a)], by omega, by omega, by simp [e0], by simp, ?_, ?_⟩
        · rw [hg, List.append_assoc, gT_fuel l f (l.length - (a + 1)) (a + 1) (by omega) (by omega)]; rfl
        · simp only [List.set_cons_zero] at H
          rw [tokV_cells, toksV_snoc] at H
          unfold OwnT
          simpa using H
      · rw [if_neg (by simpa using h0)] at hg
        have wn : IntKind.i64.wrap ((a : Int) + n) = ((a + n : Nat) : Int) := by rw [wI (by omega) (by omega)]; omega
        refine ite_r (t := false) (by simp [h0]) (fun h => by cases h) (fun _ => ?_)
        simp [e4, Value.cells, putAt]
        refine appN_h slTT 0 H rfl (u := tokV ((n : Int), (d : Int), 0)) (by omega) rfl (tokC_one _) (by omega) (by unfold maxLen; omega) (by simp [tokV, putAt, Value.cells]) (by simp [hrv]) (by simp) (.inl rfl) ?_
        intro vb v' w5 w6 _ H
        refine ⟨.inl rfl, ?_⟩
        simp [-Int.natCast_add, e4, wn]
        refine ⟨l.length - (a + n), by omega, a + n, T ++ [((n : Int), (d : Int), 0)], rfl, by omega, by simp [e0], by simp, ?_, ?_⟩
        · rw [hg, List.append_assoc]
          have := gT_fuel l f (l.length - (a + n)) (a + n) (by omega) (by omega)
          simp only [List.cons_append, List.nil_append]
          rw [this]
        · simp only [List.set_cons_zero] at H
          rw [tokV_cells, toksV_snoc] at H
          unfold OwnT
          simpa using H
    · rw [show l.length - a = 0 by omega, gT, List.append_nil] at hg
      simp [e0, e4, hS, hL]
      refine ite_r (t := false) (by simp; omega) (fun h => by cases h) (fun _ => ?_)
      simp
      rw [hg]
      exact H

set_option maxHeartbeats 4000000 in
theorem greedy2_c {G : Nat → Prop} {w : World} {v : Value} {l : List Int} (hr : Rd G w v l.length (intsV l)) (hl : l.length ≤ 1000000) :
    Calls Tryd.prog 29 [v].toArray w (Ret fun r w' => OwnT w w' r (greedyL l)) := by
  refine F_sound c29 (by simp [fc29]) ?_
  obtain ⟨hS, hL⟩ := hr.sl
  simp [fc29, s29]
  have H : Hp w w [.own 47 3 (.slice none 0 0) 0 []] := (Hp.nil w).nilS
  refine loop_r (fun m env' w' => GInv w v l m env' w') l.length ?_ ?_
  · exact ⟨0, [], rfl, by omega, by simp, by simp, rfl, H⟩
  · rintro m env w1 ⟨a, T, rfl, ha, e0, e4, hg, H⟩
    have hTl : T.length ≤ l.length := by
      have := gT_len l l.length 0
      have h2 : greedyL l = gT l l.length 0 := rfl
      rw [← h2, hg, List.length_append] at this
      omega
    by_cases hal : a < l.length
    · simp [e0, e4, hS, hL]
      refine ite_r (t := true) (by simp; omega) (fun _ => ?_) (fun h => by cases h)
      simp [wp_blk]
      refine callm (long2_c (hr.at H.mod) hl a) (by simp [e0, e4]) ?_
      intro w2 M2
      rw [longI_nat hal]
      replace H := H.same M2
      have hb := longN_bd l a
      obtain ⟨f, hf⟩ : ∃ f, l.length - a = f + 1 := ⟨l.length - a - 1, by omega⟩
      rw [hf, gT, if_pos hal] at hg
      generalize hp : longN l a = p at *
      obtain ⟨n, d⟩ := p
      simp [two]
      generalize hrv : env 3 = rv at *
      by_cases h0 : n = 0
      · subst h0
        simp only [if_true] at hg
        have hc := (hr.at H.mod).gi a hal
        have hp := hr.some (by omega)
        have w1' : IntKind.i64.wrap ((a : Int) + 1) = ((a + 1 : Nat) : Int) := by rw [wI (by omega) (by omega)]; omega
        refine ite_r (t := true) (by simp) (fun _ => ?_) (fun h => by cases h)
        simp [e0, e4, hS, hL, hal, hc, hp, Value.cells]
        refine appN_h slTT 0 H rfl (u := tokV (0, 0, gi l a)) (by omega) rfl (tokC_one _) (by omega) (by unfold maxLen; omega) (by simp [tokV, putAt, Value.cells]) (by simp [hrv]) (by simp) (.inl rfl) ?_
        intro vb v' w5 w6 _ H
        refine ⟨.inl rfl, ?_⟩
        simp [-Int.natCast_add, e4, w1']
        refine ⟨f, by omega, a + 1, T ++ [(0, 0, gi l a)], by omega, by omega, by simp [e0], by simp, ?_, ?_⟩
        · rw [hg, List.append_assoc, gT_fuel l f (l.length - (a + 1)) (a + 1) (by omega) (by omega)]; rfl
        · simp only [List.set_cons_zero] at H
          rw [tokV_cells, toksV_snoc] at H
          unfold OwnT
          simpa using H
      · rw [if_neg (by simpa using h0)] at hg
        have wn : IntKind.i64.wrap ((a : Int) + n) = ((a + n : Nat) : Int) := by rw [wI (by omega) (by omega)]; omega
        refine ite_r (t := false) (by simp [h0]) (fun h => by cases h) (fun _ => ?_)
        simp [e4, Value.cells, putAt]
        refine appN_h slTT 0 H rfl (u := tokV ((n : Int), (d : Int), 0)) (by omega) rfl (tokC_one _) (by omega) (by unfold maxLen; omega) (by simp [tokV, putAt, Value.cells]) (by simp [hrv]) (by simp) (.inl rfl) ?_
        intro vb v' w5 w6 _ H
        refine ⟨.inl rfl, ?_⟩
        simp [-Int.natCast_add, e4, wn]
        refine ⟨l.length - (a + n), by omega, a + n, T ++ [((n : Int), (d : Int), 0)], rfl, by omega, by simp [e0], by simp, ?_, ?_⟩
        · rw [hg, List.append_assoc]
          have := gT_fuel l f (l.length - (a + n)) (a + n) (by omega) (by omega)
          simp only [List.cons_append, List.nil_append]
          rw [this]
        · simp only [List.set_cons_zero] at H
          rw [tokV_cells, toksV_snoc] at H
          unfold OwnT
          simpa using H
    · rw [show l.length - a = 0 by omega, gT, List.append_nil] at hg
      simp [e0, e4, hS, hL]
      refine ite_r (t := false) (by simp; omega) (fun h => by cases h) (fun _ => ?_)
      simp
      rw [hg]
      exact H

end Go.Proofs.YtfanamibkgkaiaaDoor.VG
