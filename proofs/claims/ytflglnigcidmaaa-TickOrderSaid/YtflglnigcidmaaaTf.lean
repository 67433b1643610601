/-
  Tick: the law TickTells; the arguments as they come in.
-/
import Derived.Test.YtflglnigcidmaaaTe
namespace Go.Proofs.Ytflglnigcidmaaa.VG
open Go
set_option linter.unusedSimpArgs false
set_option linter.unusedVariables false

def smallR (p : Int × Int) : Int × Int := (1 + p.1 % 8, 1 + p.2 % 16)
theorem ratesV_snoc (l : List (Int × Int)) (p : Int × Int) : ratesV l ++ ratesV [p] = ratesV (l ++ [p]) := by simp [ratesV]
theorem ratesV_one (l : List (Int × Int)) : ∀ y ∈ ratesV l, y.oneCell' = true := by
  intro y hy
  simp only [ratesV, List.mem_flatMap] at hy
  obtain ⟨p, _, hp⟩ := hy
  simp at hp
  rcases hp with rfl | rfl <;> rfl
theorem take_gp (l : List (Int × Int)) (i : Nat) (h : i < l.length) : l.take (i + 1) = l.take i ++ [gp l i] := by
  rw [List.take_add_one, List.getElem?_eq_getElem h]; simp [gp, h]

set_option maxHeartbeats 2000000 in
theorem ttells_c {w : World} {v : Value} {l : List (Int × Int)} (h : Rd (fun k => k < w.heap.size) w v l.length (ratesV l)) (hl : l.length ≤ maxLen) (a b a' b' n t : Int) :
    Calls Try.prog 3 [rV a b, rV a' b', .int .i64 n, .int .i64 t, v].toArray w (Ret fun r w' => r = .bool true ∧ Mod none' w w') := by
  refine F_sound c3 (by simp [fc3]) ?_
  obtain ⟨hS, hL⟩ := h.sl
  simp [fc3, s3]
  refine box_h (rV a b) (Hp.nil w) (by simp) ?_
  intro g w1 H M1
  refine ⟨.inl rfl, ?_⟩
  refine box_h (rV a' b') H (by simp) ?_
  intro g2 w2 H M2
  refine ⟨.inl rfl, ?_⟩
  simp [hS, hL]
  by_cases hbig : 30 < l.length
  · refine ite_r (t := true) (by simp; omega) (fun _ => ?_) (fun h => by cases h)
    simp [H.mod]
  refine ite_r (t := false) (by simp; omega) (fun h => by cases h) (fun _ => ?_)
  simp
  refine for_r (min l.length 4) (fun i env' w' => env' 2 = .int .i64 n ∧ env' 3 = .int .i64 t ∧ env' 4 = v ∧ env' 5 = .pointer (some ⟨g, 0, none⟩) ∧ env' 6 = .pointer (some ⟨g2, 0, none⟩) ∧ env' 12 = .int .i64 i ∧
    Hp w w' [.blk g (rV a b).cells, .blk g2 (rV a' b').cells, .own 23 2 (env' 11) i (ratesV ((l.map smallR).take i))]) ?_ ?_ ?_
  · simp
    exact H.nilS
  · rintro i env w' hi ⟨e2, e3, e4, e5, e6, e12, H⟩
    have hi1 : i < l.length := by omega
    have hi2 : i < 4 := by omega
    simp [e4, e12, hS, hL]
    refine ite_r (t := true) (by simp; omega) (fun _ => ?_) (fun h => by cases h)
    obtain ⟨q1, q2, q3, q4, q5⟩ := rate_cells (h.at H.mod) i hi1
    simp [wp_blk, e4, e12, hS, hL, q1, q5, hi1]
    refine ⟨fun j hj => by rw [add_add]; exact q4 j hj, ?_⟩
    refine callm (small_c (gp l i).1 (gp l i).2) (by simp (disch := omega) [wI, wU, tmod_nn, tdiv_nn, env0_0, env0_1, env0_2, env0_3, env0_4, env0_5, -env0_apply]) ?_
    intro w' M'
    replace H := H.same M'
    simp
    refine bs_h slTR [rV (1 + (gp l i).1 % 8) (1 + (gp l i).2 % 16)] H rfl (by decide) (by simp) (by simp [rV, Value.cells]) ?_
    intro lv w4 H M4
    refine ⟨.inl rfl, ?_⟩
    have hrd := H.rd 3 rfl
    refine app_h slTR 2 H rfl (ys := ratesV [smallR (gp l i)]) (nu := 1) (by simpa [ratesV, smallR, rV, Value.cells] using hrd) (by simp [ratesV]) (ratesV_one _) (by omega) (by unfold maxLen; omega) (by simp) (by simp) ?_
    intro v5 w5 H
    refine ⟨.inl rfl, ?_⟩
    have H' := H.drop 3
    rw [ratesV_snoc] at H'
    have e : (l.map smallR).take (i + 1) = (l.map smallR).take i ++ [smallR (gp l i)] := by rw [← List.map_take, take_gp l i hi1]; simp
    simp (disch := omega) [wI, wU, tmod_nn, tdiv_nn, env0_0, env0_1, env0_2, env0_3, env0_4, env0_5, -env0_apply, e2, e3, e4, e5, e6, e12]
    rw [e]
    exact H'
  · rintro env w' ⟨e2, e3, e4, e5, e6, e12, H⟩
    simp [e4, e12, hS, hL]
    refine ite_r (t := false) (by simp; omega) (fun h => by cases h) (fun _ => ?_)
    simp
    have hsl : ((l.map smallR).take (min l.length 4)).length = min l.length 4 := by simp
    refine callm (least_c (h.at H.mod) hl) (by simp [e4]) ?_
    intro w3 M3
    replace H := H.same M3
    simp
    refine callm (least2_c (h.at H.mod) hl) (by simp [e4]) ?_
    intro w4 M4
    replace H := H.same M4
    simp
    refine callm (least_c (l := (l.map smallR).take (min l.length 4)) (by rw [hsl]; exact H.rd 2 rfl) (by omega)) (by simp) ?_
    intro w5 M5
    replace H := H.same M5
    simp
    refine callm (least2_c (l := (l.map smallR).take (min l.length 4)) (by rw [hsl]; exact H.rd 2 rfl) (by omega)) (by simp) ?_
    intro w6 M6
    replace H := H.same M6
    obtain ⟨h0, h1, h2, h3⟩ := r4 (H.blk 0 rfl)
    obtain ⟨k0, k1, k2, k3⟩ := r4 (H.blk 1 rfl)
    simp [e5, e6, h2, h3, k2, k3]
    replace H := H.drew
    refine callm (tells_c a b a' b' n t) (by simp [e2, e3]) ?_
    intro w7 M7
    replace H := H.same M7
    obtain ⟨h0, h1, h2, h3⟩ := r4 (H.blk 0 rfl)
    obtain ⟨k0, k1, k2, k3⟩ := r4 (H.blk 1 rfl)
    simp [e2, e3, e5, e6, h2, h3, k2, k3]
    refine ifg_r (t := true) (by simp) (fun _ => ?_) (fun h => (h rfl).elim)
    refine call_r _ (rate_c a b) (by simp) ?_
    rintro r w8 ⟨rfl, M8⟩
    have H0 := H
    replace H := H.same M8
    refine ⟨by simp [promOk, e6]; exact same_blk (H0.blk 1 rfl) (H.blk 1 rfl), ?_⟩
    simp
    refine ifg_r (t := true) (by simp) (fun _ => ?_) (fun h => (h rfl).elim)
    refine callm (rate_c a' b') (by simp (disch := omega) [wI, wU, tmod_nn, tdiv_nn, env0_0, env0_1, env0_2, env0_3, env0_4, env0_5, -env0_apply]) ?_
    intro w' M'
    replace H := H.same M'
    simp
    refine ifg_r (t := true) (by simp) (fun _ => ?_) (fun h => (h rfl).elim)
    refine callm (tells_c _ _ _ _ _ _) (by simp [e2, e3]; exact ⟨rfl, rfl, rfl, rfl⟩) ?_
    intro w9 M9
    replace H := H.same M9
    obtain ⟨h0, h1, h2, h3⟩ := r4 (H.blk 0 rfl)
    obtain ⟨k0, k1, k2, k3⟩ := r4 (H.blk 1 rfl)
    simp [e2, e3, e5, e6, h2, h3, k2, k3]
    refine ifg_r (t := true) (by simp) (fun _ => ?_) (fun h => (h rfl).elim)
    refine call_r _ (rate_c a b) (by simp) ?_
    rintro r w10 ⟨rfl, M10⟩
    have H0 := H
    replace H := H.same M10
    refine ⟨by simp [promOk, e6]; exact same_blk (H0.blk 1 rfl) (H.blk 1 rfl), ?_⟩
    simp
    refine ifg_r (t := true) (by simp) (fun _ => ?_) (fun h => (h rfl).elim)
    refine callm (tells_c _ _ _ _ _ _) (by simp [e2, e3]; exact ⟨rfl, rfl, rfl, rfl⟩) ?_
    intro w11 M11
    replace H := H.same M11
    obtain ⟨h0, h1, h2, h3⟩ := r4 (H.blk 0 rfl)
    obtain ⟨k0, k1, k2, k3⟩ := r4 (H.blk 1 rfl)
    simp [e2, e3, e5, e6, h2, h3, k2, k3]
    refine ifg_r (t := true) (by simp) (fun _ => ?_) (fun h => (h rfl).elim)
    refine call_r _ (small_c a b) (by simp) ?_
    rintro r w12 ⟨rfl, M12⟩
    have H0 := H
    replace H := H.same M12
    refine ⟨by simp [promOk, e6]; exact same_blk (H0.blk 1 rfl) (H.blk 1 rfl), ?_⟩
    simp
    refine ifg_r (t := true) (by simp) (fun _ => ?_) (fun h => (h rfl).elim)
    refine callm (small_c a' b') (by simp (disch := omega) [wI, wU, tmod_nn, tdiv_nn, env0_0, env0_1, env0_2, env0_3, env0_4, env0_5, -env0_apply]) ?_
    intro w' M'
    replace H := H.same M'
    simp
    refine ifg_r (t := true) (by simp) (fun _ => ?_) (fun h => (h rfl).elim)
    refine callm (tells_c _ _ _ _ _ _) (by simp [e2, e3]; exact ⟨rfl, rfl, rfl, rfl⟩) ?_
    intro w13 M13
    replace H := H.same M13
    simp
    refine ifg_r (t := true) (by simp) (fun _ => ?_) (fun h => (h rfl).elim)
    refine callm (tknown_c) (by simp (disch := omega) [wI, wU, tmod_nn, tdiv_nn, env0_0, env0_1, env0_2, env0_3, env0_4, env0_5, -env0_apply]) ?_
    intro w' M'
    replace H := H.same M'
    simp [H.mod]

theorem r_of {H : Type} {enc : TypeId × Value → H} {w : World} {a : Array Value} (h : Sees enc Try.prog w 23 a.toList) : ∃ p q, Value.agg a = rV p q := by
  obtain ⟨hl, hf⟩ := h.struct Try.underlying23
  have hc : Try.prog.cellsOf 23 = 2 := by kernel_rfl
  have c1 : Try.prog.cellsOf 2 = 1 := by kernel_rfl
  rw [hc] at hl
  match hx : a.toList, hl with
  | [x, y], _ =>
    rw [hx] at hf
    have f0 := hf 0 _ rfl
    have f1 := hf 1 _ rfl
    simp [c1] at f0 f1
    obtain ⟨n0, e0, _⟩ := f0.int (k := .i64) (by kernel_rfl)
    obtain ⟨n1, e1, _⟩ := f1.int (k := .i64) (by kernel_rfl)
    simp at e0 e1
    refine ⟨n0, n1, ?_⟩
    have : a = #[.int .i64 n0, .int .i64 n1] := by rw [← Array.toArray_toList (xs := a), hx, e0, e1]
    rw [this]; rfl
theorem rates_of {H : Type} {enc : TypeId × Value → H} {w : World} {a : Option Addr} {len cap : Nat} (h : Sees enc Try.prog w 24 [.slice a len cap]) :
    ∃ l : List (Int × Int), l.length = len ∧ len ≤ maxLen ∧ Rd (fun b => b < w.heap.size) w (.slice a len cap) len (ratesV l) := by
  have hc2 : Try.prog.cellsOf 23 = 2 := by kernel_rfl
  obtain ⟨oa, l, c, he, hm, ess, h1, h2, h3⟩ := h.slice (e := 23) (by kernel_rfl) (by rw [hc2]; omega)
  simp only [List.cons.injEq, Value.slice.injEq, and_true] at he
  obtain ⟨rfl, rfl, rfl⟩ := he
  obtain ⟨xs, rfl, h4⟩ := pick (f := fun p : Int × Int => [Value.int .i64 p.1, .int .i64 p.2]) (G := fun _ => True) ess (fun es hes => by
    obtain ⟨_, hs⟩ := h2 es hes
    obtain ⟨p, q, hpq⟩ := r_of (a := es.toArray) (by simpa using hs)
    refine ⟨(p, q), ?_, trivial⟩
    simp only [rV, Value.agg.injEq] at hpq
    have := congrArg Array.toList hpq
    simpa using this)
  exact ⟨xs, by simpa using h1, hm, by rw [ratesV, List.flatMap_def]; exact h3⟩

end Go.Proofs.Ytflglnigcidmaaa.VG
