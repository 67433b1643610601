/-
  The document's things: rows of two cells an element; a thing put by weight; two rows as one.
-/
import Derived.Test.YtgjnfajdejkkjaaXh
namespace Go.Proofs.Ytgjnfajdejkkjaa.VG
open Go
set_option linter.unusedSimpArgs false
set_option linter.unusedVariables false
set_option maxRecDepth 20000

/-- A thing as it lies: its weight, the row of its symbols, these. -/
structure Dn where
  wt : Int
  v : Value
  l : List Nat
def dnC (d : Dn) : List Value := [.int .i64 d.wt, d.v]
def dnV (d : Dn) : Value := .agg #[.int .i64 d.wt, d.v]
def thV (R : List Dn) : List Value := R.flatMap dnC
def thD (d : Dn) : Th := (d.wt, d.l)
/-- The symbols' row is a slice. -/
def DnS (d : Dn) : Prop := ∃ a n c, d.v = .slice a n c

theorem slTT : SlT Try.prog 67 70 2 32 := ⟨by kernel_rfl, ⟨_, _, rfl, rfl, rfl, rfl, rfl⟩, by omega⟩
theorem thV_len : ∀ R : List Dn, (thV R).length = R.length * 2
  | [] => rfl
  | d :: r => by
    have := thV_len r
    simp only [thV, List.flatMap_cons, List.length_append, List.length_cons] at this ⊢
    simp only [dnC, List.length_cons, List.length_nil]
    omega
theorem thV_snoc (R : List Dn) (d : Dn) : thV R ++ dnC d = thV (R ++ [d]) := by simp [thV]
theorem thV_app (R S : List Dn) : thV R ++ thV S = thV (R ++ S) := by simp [thV]
theorem thV_one {R : List Dn} (h : ∀ d ∈ R, DnS d) : ∀ y ∈ thV R, y.oneCell' = true := by
  intro y hy
  simp only [thV, List.mem_flatMap] at hy
  obtain ⟨d, hd, hy⟩ := hy
  obtain ⟨a, n, c, e⟩ := h d hd
  simp only [dnC, List.mem_cons, List.not_mem_nil, or_false] at hy
  rcases hy with rfl | rfl
  · rfl
  · rw [e]; rfl
theorem thV_get : ∀ (R : List Dn) (i : Nat) (d : Dn), R[i]? = some d → (thV R)[i * 2]? = some (.int .i64 d.wt) ∧ (thV R)[i * 2 + 1]? = some d.v
  | [], i, d, h => by simp at h
  | a :: r, 0, d, h => by
    simp only [List.getElem?_cons_zero, Option.some.injEq] at h
    subst h
    simp [thV, dnC]
  | a :: r, i + 1, d, h => by
    obtain ⟨h1, h2⟩ := thV_get r i d (by simpa using h)
    have e : thV (a :: r) = .int .i64 a.wt :: a.v :: thV r := by simp [thV, dnC]
    rw [e, show (i + 1) * 2 = i * 2 + 1 + 1 by omega]
    exact ⟨by simpa using h1, by simpa using h2⟩
theorem thV_cut (R : List Dn) (lo hi : Nat) : ((thV R).take (hi * 2)).drop (lo * 2) = thV ((R.take hi).drop lo) := by
  have t : ∀ (R : List Dn) (n : Nat), (thV R).take (n * 2) = thV (R.take n) := fun R => by
    induction R with
    | nil => intro n; simp [thV]
    | cons a r ih =>
      intro n
      cases n with
      | zero => simp [thV]
      | succ n =>
        have e : thV (a :: r) = .int .i64 a.wt :: a.v :: thV r := by simp [thV, dnC]
        have e2 : thV (a :: r.take n) = .int .i64 a.wt :: a.v :: thV (r.take n) := by simp [thV, dnC]
        rw [e, show (n + 1) * 2 = n * 2 + 1 + 1 by omega, List.take_succ_cons, List.take_succ_cons, List.take_succ_cons, ih, e2]
  have d : ∀ (R : List Dn) (n : Nat), (thV R).drop (n * 2) = thV (R.drop n) := fun R => by
    induction R with
    | nil => intro n; simp [thV]
    | cons a r ih =>
      intro n
      cases n with
      | zero => simp
      | succ n =>
        have e : thV (a :: r) = .int .i64 a.wt :: a.v :: thV r := by simp [thV, dnC]
        rw [e, show (n + 1) * 2 = n * 2 + 1 + 1 by omega, List.drop_succ_cons, List.drop_succ_cons, List.drop_succ_cons, ih]
  rw [t, d]

/-- A row of things that reads, with its room behind. -/
structure Rt (F : Nat → Prop) (w : World) (v : Value) (R : List Dn) : Prop where
  rd : Rd F w v R.length (thV R)
  cap : R.length ≤ slC v
  sl : ∀ d ∈ R, DnS d
theorem Rt.at {F : Nat → Prop} {w w' : World} {v : Value} {R : List Dn} (h : Rt F w v R) (m : Mod none' w w') : Rt F w' v R := ⟨h.rd.at m, h.cap, h.sl⟩
theorem Rt.cells {F : Nat → Prop} {w : World} {v : Value} {R : List Dn} (h : Rt F w v R) {i : Nat} {d : Dn} (hi : R[i]? = some d) : w.cell? ((slB v).add (i * 2)) = some (.int .i64 d.wt) ∧ w.cell? (((slB v).add (i * 2)).add 1) = some d.v ∧
    (∀ j, j < 2 → (w.cell? (((slB v).add (i * 2)).add j)).isSome = true) ∧ cellsFrom w ((slB v).add (i * 2)) 0 2 = dnC d := by
  obtain ⟨g0, g1⟩ := thV_get R i d hi
  have c0 := h.rd.cell _ _ g0
  have c1 := h.rd.cell _ _ g1
  rw [← add_add] at c1
  refine ⟨c0, c1, ?_, ?_⟩
  · intro j hj
    obtain rfl | rfl : j = 0 ∨ j = 1 := by omega
    · rw [add_zero, c0]; rfl
    · rw [c1]; rfl
  · simp [cellsFrom, c0, c1, dnC]
theorem Rt.ptr {F : Nat → Prop} {w : World} {v : Value} {R : List Dn} (h : Rt F w v R) (hl : 0 < R.length) : (slA v).isSome = true := (h.rd.ptr (by rw [thV_len]; omega)).1
theorem Hp.rt {W w : World} {l : List It} (h : Hp W w l) (j : Nat) {v : Value} {R : List Dn} (hj : l[j]? = some (.own 70 2 v R.length (thV R))) (hs : ∀ d ∈ R, DnS d) : Rt (fun k => W.heap.size ≤ k) w v R := by
  refine ⟨h.rd j hj, ?_, hs⟩
  rcases (h.own j hj).2 with ⟨rfl, h0⟩ | ⟨g, cap, cur, rfl, _, _, hn, _⟩
  · rw [h0]; exact Nat.zero_le _
  · exact hn
theorem Rt.cut {F : Nat → Prop} {w : World} {v : Value} {R : List Dn} (h : Rt F w v R) (lo hi : Nat) (h1 : lo ≤ hi) (h2 : hi ≤ R.length) : Rd F w (slVal 2 v lo hi) (hi - lo) (thV ((R.take hi).drop lo)) := by
  rw [← thV_cut]
  obtain ⟨cap, hv⟩ := h.rd.is
  have hcap := h.cap
  have hlen := thV_len R
  have hptr := h.rd.ptr
  have hcell := h.rd.cell
  clear h
  generalize slA v = oa at *
  subst hv
  replace hcap : R.length ≤ cap := hcap
  generalize thV R = xs at *
  cases oa with
  | none =>
    have h0 : xs.length = 0 := by
      rcases Nat.eq_zero_or_pos xs.length with h | h
      · exact h
      · exact absurd (hptr h).1 (by simp)
    have e : slVal 2 (.slice none R.length cap) lo hi = .slice none (hi - lo) (cap - lo) := by by_cases hc : cap = lo <;> simp [slVal, slA, slC, hc]
    rw [e]
    obtain rfl : xs = [] := List.eq_nil_of_length_eq_zero h0
    exact ⟨⟨_, rfl⟩, fun hp => by simp at hp, fun j u hj => by simp at hj⟩
  | some a =>
    have e : slVal 2 (.slice (some a) R.length cap) lo hi = .slice (some (if cap = lo then a else a.add (lo * 2))) (hi - lo) (cap - lo) := by unfold slVal; simp only [slA, slC, Option.map_some]; by_cases hc : cap = lo <;> simp [hc]
    rw [e]
    refine ⟨⟨_, rfl⟩, fun hp => ⟨rfl, ?_⟩, fun j u hj => ?_⟩
    · simp only [List.length_drop, List.length_take] at hp
      obtain ⟨_, p2⟩ := hptr (by omega)
      rw [slB_some] at p2 ⊢
      split
      · exact p2
      · simpa [add_block] using p2
    · have hj' := (List.getElem?_eq_some_iff.1 hj).1
      simp only [List.length_drop, List.length_take] at hj'
      rw [List.getElem?_drop, List.getElem?_take_of_lt (by omega)] at hj
      have hc := hcell (lo * 2 + j) u hj
      rw [slB_some] at hc ⊢
      rw [if_neg (by omega), add_add]
      exact hc

section
variable {P : Program} {Q : Exit → Env → World → Prop} {env : Env} {w W : World} {k : S} {l : List It}
/-- append(own, x) of one element of any number of cells. -/
theorem appN_h {b : Nat} {x : Option Nat} {t e : TypeId} {size bytes : Nat} (T : SlT P t e size bytes) {s : Nat} {o : Operand} {ty ty1 : TypeId} {m m1 : List (Nat × E)} {pr pr1 : List PrE} {v u : Value} {n : Nat} {xs : List Value} (j : Nat)
    (h : Hp W w l) (hj : l[j]? = some (.own e size v n xs)) (hs0 : size ≤ 1000) (h1 : u.cells.size = size) (h2 : ∀ y ∈ u.cells.toList, y.oneCell' = true) (h47 : (n + 1) * bytes ≤ 140737488355328) (hm : n + 1 ≤ maxLen)
    (ho : rhoOf m1 env w o = u) (hs : ∀ v' w', rhoOf m (upd env b v') w' (.tmp s) = v) (hx : ∀ v' w', rhoOf m (upd env b v') w' (.tmp b) = v')
    (hp1 : pr1 = [] ∨ ∀ w', Mod none' w w' → promsOk pr1 env w w')
    (hk : ∀ vb v' w1 w', Mod none' w w1 → Hp W w' (l.set j (.own e size v' (n + 1) (xs ++ u.cells.toList))) → (pr = [] ∨ promsOk pr (upd env b vb) w1 w') ∧ k.wp P Q (updo (upd env b vb) x v') w') :
    (S.op (some b) (.buildSlice t 1 #[(0, o)]) ty1 m1 pr1 (.op x (.call ⟨.builtin .append, #[.tmp s, .tmp b], #[t, t]⟩) ty m pr k)).wp P Q env w := by
  refine bs_h T [u] h rfl (by omega) (by simp [ho]) (by simpa using h1) ?_
  intro vb w1 H M1
  refine ⟨?_, ?_⟩
  · rcases hp1 with h | h
    · exact .inl h
    · exact .inr (h w1 M1)
  have hjl : j < l.length := (List.getElem?_eq_some_iff.1 hj).1
  have e0 : ([u].flatMap fun e => e.cells.toList) = u.cells.toList := by simp
  rw [e0] at H
  refine app_h T j H (by rw [List.getElem?_append_left hjl]; exact hj) (H.rd (e := e) (size := size) l.length (by simp)) (by simpa using h1) h2 h47 hm (hs _ _) (hx _ _) ?_
  intro v' w' H'
  have hset : (l ++ [It.own e size vb 1 u.cells.toList]).set j (.own e size v' (n + 1) (xs ++ u.cells.toList)) = l.set j (.own e size v' (n + 1) (xs ++ u.cells.toList)) ++ [It.own e size vb 1 u.cells.toList] := by
    rw [List.set_append_left _ _ hjl]
  rw [hset] at H'
  have H2 := H'.drop l.length
  rw [List.eraseIdx_append_of_length_le (by simp)] at H2
  simp at H2
  exact hk vb v' w1 w' M1 H2
end

/-- Two rows as one, the document's way: what stands before a place. -/
def MrI (A B : List Dn) (i k : Nat) (R : List Dn) : Prop := R.map thD ++ mrgT ((A.drop i).map thD) ((B.drop k).map thD) = mrgT (A.map thD) (B.map thD) ∧ (∀ d ∈ R, d ∈ A ∨ d ∈ B) ∧ R.length = i + k

def MInv (w : World) (u v : Value) (A B : List Dn) (z : Nat) (env' : Env) (w' : World) : Prop := env' 0 = u ∧ env' 1 = v ∧ ∃ i k R vr, z = A.length + B.length - (i + k) ∧ i ≤ A.length ∧ k ≤ B.length ∧ env' 6 = .int .i64 (i : Nat) ∧ env' 7 = .int .i64 (k : Nat) ∧ env' 5 = vr ∧ MrI A B i k R ∧ Hp w w' [.own 70 2 vr R.length (thV R)]
theorem MrI.left {A B : List Dn} {i k : Nat} {R : List Dn} {x : Dn} (h : MrI A B i k R) (hx : A[i]? = some x) (hc : k = B.length ∨ ∃ y, B[k]? = some y ∧ x.wt ≤ y.wt) : MrI A B (i + 1) k (R ++ [x]) := by
  obtain ⟨hR, hRm, hRl⟩ := h
  have hil : i < A.length := (List.getElem?_eq_some_iff.1 hx).1
  have hxe : A[i] = x := by rw [List.getElem?_eq_getElem hil] at hx; simpa using hx
  refine ⟨?_, ?_, by simp; omega⟩
  · rw [← hR, List.drop_eq_getElem_cons hil, hxe]
    rcases hc with rfl | ⟨y, hy, hle⟩
    · rw [List.drop_length, List.map_nil, mrgT_nil, mrgT_nil]; simp
    · have hkl : k < B.length := (List.getElem?_eq_some_iff.1 hy).1
      have hye : B[k] = y := by rw [List.getElem?_eq_getElem hkl] at hy; simpa using hy
      rw [List.drop_eq_getElem_cons hkl, hye, List.map_cons, List.map_cons, mrgT_l (by exact hle)]
      simp
  · intro d hd
    rcases List.mem_append.1 hd with hd | hd
    · exact hRm d hd
    · simp only [List.mem_singleton] at hd; subst hd; exact .inl (List.mem_of_getElem? hx)
theorem MrI.right {A B : List Dn} {i k : Nat} {R : List Dn} {y : Dn} (h : MrI A B i k R) (hy : B[k]? = some y) (hc : i = A.length ∨ ∃ x, A[i]? = some x ∧ y.wt < x.wt) : MrI A B i (k + 1) (R ++ [y]) := by
  obtain ⟨hR, hRm, hRl⟩ := h
  have hkl : k < B.length := (List.getElem?_eq_some_iff.1 hy).1
  have hye : B[k] = y := by rw [List.getElem?_eq_getElem hkl] at hy; simpa using hy
  refine ⟨?_, ?_, by simp; omega⟩
  · rw [← hR, List.drop_eq_getElem_cons hkl, hye]
    rcases hc with rfl | ⟨x, hx, hlt⟩
    · rw [List.drop_length, List.map_nil, mrgT_nil', mrgT_nil']; simp
    · have hil : i < A.length := (List.getElem?_eq_some_iff.1 hx).1
      have hxe : A[i] = x := by rw [List.getElem?_eq_getElem hil] at hx; simpa using hx
      rw [List.drop_eq_getElem_cons hil, hxe, List.map_cons, List.map_cons, mrgT_r (by exact hlt)]
      simp
  · intro d hd
    rcases List.mem_append.1 hd with hd | hd
    · exact hRm d hd
    · simp only [List.mem_singleton] at hd; subst hd; exact .inr (List.mem_of_getElem? hy)
theorem dn_one {d : Dn} (h : DnS d) : ∀ y ∈ (dnV d).cells.toList, y.oneCell' = true := fun y hy => thV_one (R := [d]) (fun e he => by simp only [List.mem_singleton] at he; subst he; exact h) y (by simpa [dnV, thV, dnC, Value.cells] using hy)

set_option maxHeartbeats 4000000 in
theorem merged_c {F G : Nat → Prop} {w : World} {u v : Value} {A B : List Dn} (ha : Rt F w u A) (hb : Rt G w v B) (hA : A.length ≤ 1000000) (hB : B.length ≤ 1000000) :
    Calls Try.prog 38 [u, v].toArray w (Ret fun r w' => ∃ R : List Dn, R.map thD = mrgT (A.map thD) (B.map thD) ∧ (∀ d ∈ R, d ∈ A ∨ d ∈ B) ∧ Hp w w' [.own 70 2 r R.length (thV R)]) := by
  refine F_sound c38 (by simp [fc38]) ?_
  obtain ⟨aS, aL⟩ := ha.rd.sl
  obtain ⟨bS, bL⟩ := hb.rd.sl
  have hM : maxLen = 9223372036854775807 := rfl
  simp [fc38, s38]
  have H : Hp w w [.own 70 2 (.slice none 0 0) 0 []] := (Hp.nil w).nilS
  refine loop_r (MInv w u v A B) (A.length + B.length) ?_ ?_
  · exact ⟨by simp, by simp, 0, 0, [], _, rfl, by omega, by omega, by simp, by simp, by simp, ⟨by simp, (fun d hd => by cases hd), rfl⟩, H⟩
  · rintro z env w1 ⟨e0, e1, i, k, R, vr, rfl, hi, hk, e6, e7, e5, hI, H⟩
    have wi : IntKind.i64.wrap ((i : Int) + 1) = ((i + 1 : Nat) : Int) := by rw [wI (by omega) (by omega)]; omega
    have wk : IntKind.i64.wrap ((k : Int) + 1) = ((k + 1 : Nat) : Int) := by rw [wI (by omega) (by omega)]; omega
    have hRl := hI.2.2
    simp [e0, e1, e6, e7, aS, aL, bS, bL]
    by_cases hend : i = A.length ∧ k = B.length
    · obtain ⟨rfl, rfl⟩ := hend
      refine ite_r (t := false) (by simp) (fun h => by cases h) (fun _ => ?_)
      simp [e5]
      exact ⟨R, by simpa [mrgT] using hI.1, hI.2.1, H⟩
    · refine ite_r (t := true) (by simp; omega) (fun _ => ?_) (fun h => by cases h)
      have HD := H.drew
      have ha' := ha.at H.mod
      have hb' := hb.at H.mod
      simp [wp_blk, wp_draw, e0, e1, e6, e7, aS, aL, bS, bL]
      have hun : isBool undef true = false := rfl
      have go : ∀ (x : Dn) (vr' : Value) (w2 : World), Hp w w2 [.own 70 2 vr' (R.length + 1) (thV R ++ (dnV x).cells.toList)] → Hp w w2 [.own 70 2 vr' (R ++ [x]).length (thV (R ++ [x]))] := fun x vr' w2 h => by
        rw [← thV_snoc, List.length_append]; exact h
      by_cases hk' : k = B.length
      · -- only the first row is left
        obtain ⟨x, hx⟩ : ∃ x, A[i]? = some x := ⟨A[i]'(by omega), List.getElem?_eq_getElem (by omega)⟩
        obtain ⟨c0, c1, c2, c3⟩ := ha'.cells hx
        have pa := ha'.ptr (by omega)
        have hxs := ha.sl x (List.mem_of_getElem? hx)
        have hil : i < A.length := by omega
        have hstep := hI.left hx (.inl hk')
        simp [hk', hun]
        refine ite_r (t := true) (by simp) (fun _ => ?_) (fun h => by cases h)
        simp [e0, e6, aS, aL, pa, c0, c2, c3, hil, dnC]
        refine ⟨c2, ?_⟩
        refine appN_h slTT 0 HD rfl (u := dnV x) (by omega) rfl (dn_one hxs) (by omega) (by omega) (by simp [dnV]) (by simp [e5]) (by simp) (.inl rfl) ?_
        intro vb vr' w2 w3 M2 H3
        refine ⟨.inl rfl, ?_⟩
        simp [e6, wi, -Int.natCast_add]
        exact ⟨A.length + B.length - (i + 1 + k), by omega, by simp [e0], by simp [e1], i + 1, k, R ++ [x], vr', rfl, by omega, by omega, by simp, by simp [e7], by simp, hstep, go x vr' w3 H3⟩
      · have hkl : k < B.length := by omega
        obtain ⟨y, hy⟩ : ∃ y, B[k]? = some y := ⟨B[k]'(by omega), List.getElem?_eq_getElem (by omega)⟩
        obtain ⟨d0, d1, d2, d3⟩ := hb'.cells hy
        have pb := hb'.ptr (by omega)
        have hys := hb.sl y (List.mem_of_getElem? hy)
        have right : (i = A.length ∨ ∃ x, A[i]? = some x ∧ y.wt < x.wt) → True := fun _ => trivial
        by_cases hi' : i = A.length
        · have hstep := hI.right hy (.inl hi')
          have hnk : ¬ B.length ≤ k := by omega
          simp [hi', hun, hkl, hnk]
          refine ite_r (t := false) (by simp [hkl, hnk]) (fun h => by cases h) (fun _ => ?_)
          simp [e1, e7, bS, bL, pb, d0, d2, d3, hkl, dnC]
          refine ⟨d2, ?_⟩
          refine appN_h slTT 0 HD rfl (u := dnV y) (by omega) rfl (dn_one hys) (by omega) (by omega) (by simp [dnV]) (by simp [e5]) (by simp) (.inl rfl) ?_
          intro vb vr' w2 w3 M2 H3
          refine ⟨.inl rfl, ?_⟩
          simp [e7, wk, -Int.natCast_add]
          exact ⟨A.length + B.length - (i + (k + 1)), by omega, by simp [e0], by simp [e1], i, k + 1, R ++ [y], vr', rfl, by omega, by omega, by simp [e6], by simp, by simp, hstep, go y vr' w3 H3⟩
        · have hil : i < A.length := by omega
          obtain ⟨x, hx⟩ : ∃ x, A[i]? = some x := ⟨A[i]'(by omega), List.getElem?_eq_getElem (by omega)⟩
          obtain ⟨c0, c1, c2, c3⟩ := ha'.cells hx
          have pa := ha'.ptr (by omega)
          have hxs := ha.sl x (List.mem_of_getElem? hx)
          have hnk : ¬ B.length ≤ k := by omega
          simp [hkl, hil, hnk, pa, pb, c0, d0, e0, e1, e6, e7, aS, aL, bS, bL]
          by_cases hle : x.wt ≤ y.wt
          · have hstep := hI.left hx (.inr ⟨y, hy, hle⟩)
            refine ite_r (t := true) (by simp [hle, hnk]) (fun _ => ?_) (fun h => by cases h)
            simp [e0, e6, aS, aL, pa, c0, c2, c3, hil, dnC]
            refine ⟨c2, ?_⟩
            refine appN_h slTT 0 HD rfl (u := dnV x) (by omega) rfl (dn_one hxs) (by omega) (by omega) (by simp [dnV]) (by simp [e5]) (by simp) (.inl rfl) ?_
            intro vb vr' w2 w3 M2 H3
            refine ⟨.inl rfl, ?_⟩
            simp [e6, wi, -Int.natCast_add]
            exact ⟨A.length + B.length - (i + 1 + k), by omega, by simp [e0], by simp [e1], i + 1, k, R ++ [x], vr', rfl, by omega, by omega, by simp, by simp [e7], by simp, hstep, go x vr' w3 H3⟩
          · have hstep := hI.right hy (.inr ⟨x, hx, by omega⟩)
            refine ite_r (t := false) (by simp [hle, hnk] <;> omega) (fun h => by cases h) (fun _ => ?_)
            simp [e1, e7, bS, bL, pb, d0, d2, d3, hkl, dnC]
            refine ⟨d2, ?_⟩
            refine appN_h slTT 0 HD rfl (u := dnV y) (by omega) rfl (dn_one hys) (by omega) (by omega) (by simp [dnV]) (by simp [e5]) (by simp) (.inl rfl) ?_
            intro vb vr' w2 w3 M2 H3
            refine ⟨.inl rfl, ?_⟩
            simp [e7, wk, -Int.natCast_add]
            exact ⟨A.length + B.length - (i + (k + 1)), by omega, by simp [e0], by simp [e1], i, k + 1, R ++ [y], vr', rfl, by omega, by omega, by simp [e6], by simp, by simp, hstep, go y vr' w3 H3⟩

end Go.Proofs.Ytgjnfajdejkkjaa.VG
