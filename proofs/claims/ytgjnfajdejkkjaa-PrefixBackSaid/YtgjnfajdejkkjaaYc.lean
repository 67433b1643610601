/-
  A code's table is got as it was put.
-/
import Derived.Test.YtgjnfajdejkkjaaYb
import Derived.Test.YtgjnfajdejkkjaaQx
namespace Go.Proofs.Ytgjnfajdejkkjaa.VG
open Go
set_option linter.unusedSimpArgs false
set_option linter.unusedVariables false
set_option maxRecDepth 20000

theorem beq_c {w : World} {F G : Nat → Prop} {va vb : Value} {l : List Nat} (ha : Rd F w va l.length (bytesV l)) (hb : Rd G w vb l.length (bytesV l)) (fa : ∀ x ∈ l, x < 256) :
    Calls Try.prog 51 [va, vb].toArray w (Ret fun r w' => r = .bool true ∧ w' = w) := by
  refine F_sound c51 (by simp [fc51]) ?_
  simp [fc51, s51]
  refine str_r (e := 5) (by kernel_rfl) (by kernel_rfl) (by kernel_rfl) (ha.oct fa) (by simp) ⟨by simp [promsOk], ?_⟩
  refine str_r (e := 5) (by kernel_rfl) (by kernel_rfl) (by kernel_rfl) (hb.oct fa) (by simp) ⟨by simp [promsOk], ?_⟩
  simp

/-- The closure 'get': so many bits are read, and put aside. -/
theorem tget_h {W w : World} {rest : List It} {b b1 b4 : Nat} {S : List Nat} {p p' v n : Nat} {sb : List Bool} (H : Hp W w (.rr b S p 0 :: .blk b1 #[.pointer (some ⟨b, 0, none⟩)] :: .wr b4 sb :: rest)) (hg : rGet S p 0 n = (v, p', 0)) (hn : n ≤ 32) (hv : v < 2 ^ n) (hs : sb.length < 1000000) :
    Calls Try.prog 50 [.int .i64 n, .pointer (some ⟨b1, 0, none⟩), .pointer (some ⟨b4, 0, none⟩)].toArray w (Ret fun r w' => r = .int .i64 v ∧ Hp W w' (.rr b S p' 0 :: .blk b1 #[.pointer (some ⟨b, 0, none⟩)] :: .wr b4 (sb ++ toB v n) :: rest)) := by
  refine F_sound c50 (by simp [fc50]) ?_
  have hp : 2 ^ n ≤ 2 ^ 32 := Nat.pow_le_pow_right (by omega) (by omega)
  have wv : IntKind.i64.wrap (v : Int) = (v : Int) := wI (by omega) (by omega)
  have c0 := H.blk 1 rfl 0
  simp at c0
  simp [fc50, s50, c0]
  obtain ⟨FW, hW, hFW, upW⟩ := H.rr 0 rfl
  refine call_h (get_c hW n) (by simp (disch := omega) [wI, wU, tmod_nn, tdiv_nn, env0_0, env0_1, env0_2, env0_3, env0_4, env0_5, -env0_apply]) ?_
  rintro r wW ⟨rfl, AW⟩
  replace H := upW _ _ _ AW
  rw [hg] at H ⊢
  replace H : Hp W wW (.rr b S p' 0 :: .blk b1 #[.pointer (some ⟨b, 0, none⟩)] :: .wr b4 sb :: rest) := H
  simp
  obtain ⟨FW, hW, hFW, upW, rdW⟩ := H.wr 2 rfl
  refine call_h (put_yes hW v n (by omega) hv (by omega)) (by simp (disch := omega) [wI, wU, tmod_nn, tdiv_nn, env0_0, env0_1, env0_2, env0_3, env0_4, env0_5, -env0_apply]) ?_
  rintro r wW ⟨rfl, AW⟩
  replace H := upW _ _ AW
  simp [wv]
  exact H

theorem infoW : ∃ i, Try.prog.info? 54 = some i ∧ i.zero = some (.agg #[.slice none 0 0, .int .i64 0]) := ⟨_, rfl, rfl⟩
theorem getr_h {Q : Exit → Env → World → Prop} {env : Env} {w W : World} {k : S} {rest : List It} {x : Option Nat} {c a1 : Operand} {tys : Array TypeId} {ty : TypeId} {m : List (Nat × E)} {b b1 b4 : Nat} {R : List Nat} {p p' v n : Nat} {sb : List Bool}
    (H : Hp W w (.rr b R p 0 :: .blk b1 #[.pointer (some ⟨b, 0, none⟩)] :: .wr b4 sb :: rest)) (hg : rGet R p 0 n = (v, p', 0)) (hn : n ≤ 32) (hv : v < 2 ^ n) (hs : sb.length < 1000000)
    (hc : rhoOf m env w c = .func (.func 50) #[] #[.pointer (some ⟨b1, 0, none⟩), .pointer (some ⟨b4, 0, none⟩)]) (h1 : rhoOf m env w a1 = .int .i64 n)
    (hk : ∀ w', Hp W w' (.rr b R p' 0 :: .blk b1 #[.pointer (some ⟨b, 0, none⟩)] :: .wr b4 (sb ++ toB v n) :: rest) → k.wp Try.prog Q (updo env x (.int .i64 v)) w') :
    (S.op x (.call ⟨.value c, #[a1], tys⟩) ty m [] k).wp Try.prog Q env w := by
  refine dyn1_r hc h1 ?_
  rw [enters_of Try.func50 (by kernel_rfl) rfl]
  refine Calls.mono (tget_h H hg hn hv hs) ?_
  rintro e w' ⟨r, rfl, rfl, H'⟩
  exact ⟨_, rfl, trivial, hk w' H'⟩
theorem wr_new {W w w' : World} {l : List It} (h : Hp W w l) {b : Nat} {el : TypeId} (hb : b = w.heap.size) (hh : w'.heap[b]? = some (.cells (Value.agg #[.slice none 0 0, .int .i64 0]).cells el (0, 0))) (m : Mod none' w w') : Hp W w' (l ++ [.wr b []]) := h.newWr hb hh m

theorem rGet_toB (A C : List Bool) {v n : Nat} (hn : n ≤ 64) (hv : v < 2 ^ n) : rGet (packB (A ++ (toB v n ++ C))) A.length 0 n = (v, A.length + n, 0) := by
  have := rGet_pack A (toB v n) C (by rw [toB_length]; exact hn)
  rw [toB_length, ofB_toB, Nat.mod_eq_of_lt hv] at this
  rw [← List.append_assoc]; exact this

def GtI (W : World) (b b1 b4 : Nat) (S : List Nat) (A C : List Bool) (lens : List Int) (rest : List It) (z : Nat) (env' : Env) (w' : World) : Prop :=
  env' 1 = .pointer (some ⟨b1, 0, none⟩) ∧ env' 4 = .pointer (some ⟨b4, 0, none⟩) ∧ env' 5 = .func (.func 50) #[] #[.pointer (some ⟨b1, 0, none⟩), .pointer (some ⟨b4, 0, none⟩)] ∧ env' 6 = .int .i64 lens.length ∧
  ∃ (i : Nat) (D : List Bool) (u : Value), z = lens.length - i ∧ i ≤ lens.length ∧ D ++ tabT (lens.drop i) = tabT lens ∧ env' 7 = u ∧
    Hp W w' (.rr b S (A.length + 10 + D.length) 0 :: .blk b1 #[.pointer (some ⟨b, 0, none⟩)] :: .wr b4 (toB (lens.length - 1) 10 ++ D) :: .own 3 1 u i (intsV (lens.take i)) :: rest)

set_option maxHeartbeats 8000000 in
theorem gettab_h {W w : World} {rest : List It} {b : Nat} {A C : List Bool} {lens : List Int} (H : Hp W w (.rr b (packB (A ++ (tabB lens ++ C))) A.length 0 :: rest)) (hf : fullB lens = true) :
    Calls Try.prog 32 [.pointer (some ⟨b, 0, none⟩)].toArray w (Ret fun r w' => ∃ u, r = .tuple #[u, .int .i64 0] ∧ Hp W w' (.rr b (packB (A ++ (tabB lens ++ C))) (A.length + (tabB lens).length) 0 :: .own 3 1 u lens.length (intsV lens) :: rest)) := by
  refine F_sound c32 (by simp [fc32]) ?_
  have hlen : 1 ≤ lens.length ∧ lens.length ≤ 1024 ∧ lens.all okLen = true := by
    unfold fullB at hf
    simp only [Bool.and_eq_true, decide_eq_true_eq] at hf
    exact ⟨hf.1.1.1, hf.1.1.2, hf.1.2⟩
  have hok : ∀ i, i < lens.length → 0 ≤ gi lens i ∧ gi lens i ≤ 24 := fun i hi => okLen_iff.1 (List.all_eq_true.1 hlen.2.2 _ (gi_mem lens i hi))
  have hM : maxLen = 9223372036854775807 := rfl
  have hTl := tabL_len lens.length lens
  simp [fc32, s32]
  refine box_h (.pointer (some ⟨b, 0, none⟩)) H (by simp) ?_
  intro b1 w1 H M1
  refine ⟨.inl rfl, ?_⟩
  replace H := H.perm (l' := .rr b (packB (A ++ (tabB lens ++ C))) A.length 0 :: .blk b1 #[.pointer (some ⟨b, 0, none⟩)] :: rest) (by
    rw [List.cons_append]
    exact List.Perm.cons _ List.perm_append_comm)
  have c0 := H.blk 1 rfl 0
  simp at c0
  simp [c0]
  obtain ⟨FR, hR, _⟩ := H.rr 0 rfl
  refine callp (err_c hR) (by simp [c0]) ?_
  simp
  refine ite_r (t := false) (by simp) (fun h => by cases h) (fun _ => ?_)
  simp
  obtain ⟨iw, hiw, hzw⟩ := infoW
  refine alloc_r hiw hzw ?_
  intro b4 w2 hb4 hh M2 hsz
  refine ⟨trivial, ?_⟩
  replace H := wr_new H hb4 hh M2
  replace H := H.perm (l' := .rr b (packB (A ++ (tabB lens ++ C))) A.length 0 :: .blk b1 #[.pointer (some ⟨b, 0, none⟩)] :: .wr b4 [] :: rest) (by
    rw [List.cons_append, List.cons_append]
    exact List.Perm.cons _ (List.Perm.cons _ List.perm_append_comm))
  clear hR hh hb4 M2 hsz c0
  refine fn2_r (.pointer (some ⟨b1, 0, none⟩)) (.pointer (some ⟨b4, 0, none⟩)) (by simp) (by simp) ⟨.inl rfl, ?_⟩
  simp
  have hS0 : A ++ (tabB lens ++ C) = A ++ (toB (lens.length - 1) 10 ++ (tabT lens ++ C)) := by unfold tabB; simp
  generalize hS : packB (A ++ (tabB lens ++ C)) = S at *
  refine getr_h (n := 10) H (by rw [← hS, hS0]; exact rGet_toB A _ (by omega) (by omega)) (by omega) (by omega) (by simp) (by simp) (by simp) ?_
  intro w3 H
  rw [List.nil_append] at H
  have wN : IntKind.i64.wrap (((lens.length - 1 : Nat) : Int) + 1) = (lens.length : Int) := by rw [wI (by omega) (by omega)]; omega
  simp [wN]
  replace H := H.nilS (e := 3) (size := 1)
  replace H := H.perm (l' := .rr b S (A.length + 10) 0 :: .blk b1 #[.pointer (some ⟨b, 0, none⟩)] :: .wr b4 (toB (lens.length - 1) 10) :: .own 3 1 (.slice none 0 0) 0 [] :: rest) (by
    rw [List.cons_append, List.cons_append, List.cons_append]
    exact List.Perm.cons _ (List.Perm.cons _ (List.Perm.cons _ List.perm_append_comm)))
  refine loop_r (GtI W b b1 b4 S A C lens rest) lens.length ?_ ?_
  · exact ⟨by simp, by simp, by simp, by simp, 0, [], .slice none 0 0, rfl, by omega, by simp, by simp, by simpa using H⟩
  · rintro z env w4 ⟨e1, e4, e5, e6, i, D, u, rfl, hi, hD, e7, H⟩
    have c0 := H.blk 1 rfl 0
    simp at c0
    obtain ⟨uS, uL⟩ := (H.rd 3 rfl).sl
    have hDl : D.length ≤ 11 * lens.length := by
      have h1 := congrArg List.length hD
      rw [List.length_append] at h1
      unfold tabT at h1
      omega
    simp [e1, c0]
    obtain ⟨FR, hR, _⟩ := H.rr 0 rfl
    refine callp (err_c hR) (by simp [e1, c0]) ?_
    simp [e6, e7, uS, uL]
    have hS1 : S = packB (A ++ (toB (lens.length - 1) 10 ++ D) ++ (tabT (lens.drop i) ++ C)) := by
      rw [← hS, hS0, ← hD]; simp
    have hAl : A.length + 10 + D.length = (A ++ (toB (lens.length - 1) 10 ++ D)).length := by simp [toB_length]; omega
    by_cases hend : i = lens.length
    · subst hend
      rw [List.drop_length, tabT_nil, List.append_nil] at hD
      have hB : toB (lens.length - 1) 10 ++ D = tabB lens := by rw [hD]; rfl
      have hBl : (tabB lens).length = 10 + D.length := by rw [← hB, List.length_append, toB_length]
      rw [List.take_length, hB, Nat.add_assoc, ← hBl] at H
      refine ite_r (t := false) (by simp) (fun h => by cases h) (fun _ => ?_)
      simp [e1, c0]
      refine callp (err_c hR) (by simp [e1, c0]) ?_
      simp
      refine ite_r (t := false) (by simp) (fun h => by cases h) (fun _ => ?_)
      simp
      refine alloc_r hiw hzw ?_
      intro b9 w5 hb9 hh M5 hsz
      refine ⟨trivial, ?_⟩
      replace H := wr_new H hb9 hh M5
      simp [e6, e7, uS, uL]
      refine ifg_r (t := false) (by simp) (fun _ => ?_) (fun h => (h rfl).elim)
      replace H := H.perm (l' := .wr b9 [] :: .rr b S (A.length + (tabB lens).length) 0 :: .blk b1 #[.pointer (some ⟨b, 0, none⟩)] :: .wr b4 (tabB lens) :: .own 3 1 u lens.length (intsV lens) :: rest) (List.perm_append_comm (l₂ := [_]))
      refine call_h (puttab_h H (fun _ _ h => h.rd 4 rfl) (by simp) hf) (by simp [e7]) ?_
      rintro r w6 ⟨rfl, H⟩
      rw [List.nil_append] at H
      simp
      refine ite_r (t := false) (by simp) (fun h => by cases h) (fun _ => ?_)
      simp
      obtain ⟨FW, hW, _⟩ := H.wr 0 rfl
      refine callp (len_c hW) (by simp) ?_
      obtain ⟨FV, hV, _⟩ := H.wr 3 rfl
      refine callp (len_c hV) (by simp [e4]) ?_
      simp
      have hbb : (tabB lens).length < 1099511627776 := by rw [hBl]; omega
      refine ifg_r (t := false) (by simp) (fun _ => ?_) (fun h => (h rfl).elim)
      refine call_h (bytes_c hW hbb) (by simp) ?_
      intro va w7 A1
      replace H := H.same A1.2
      obtain ⟨FV, hV, _⟩ := H.wr 3 rfl
      simp
      refine ifg_r (t := false) (by simp) (fun _ => ?_) (fun h => (h rfl).elim)
      refine call_h (bytes_c hV hbb) (by simp [e4]) ?_
      intro vb w8 A2
      replace H := H.same A2.2
      simp
      refine ifg_r (t := false) (by simp) (fun _ => ?_) (fun h => (h rfl).elim)
      refine callp (beq_c ((Rd.of_owns A1.1).at A2.2) (Rd.of_owns A2.1) (packB_fits _)) (by simp) ?_
      simp
      refine ite_r (t := false) (by simp) (fun h => by cases h) (fun _ => ?_)
      simp [e7]
      exact ((H.drop 0).drop 1).drop 1
    · have hil : i < lens.length := by omega
      refine ite_r (t := true) (by simp; omega) (fun _ => ?_) (fun h => by cases h)
      have hzall := zrF_all 66 (lens.drop i)
      have hzd : zrF 66 (lens.drop i) = zr (lens.drop i) := rfl
      rw [hzd, List.length_drop] at hzall
      have hdl : 0 < (lens.drop i).length := by rw [List.length_drop]; omega
      have h1 := @tabT_one (lens.drop i) hdl
      have h2 := @tabT_run (lens.drop i) hdl
      rw [gi_drop, Nat.add_zero, List.drop_drop] at h1
      rw [List.drop_drop] at h2
      obtain ⟨o0, o1⟩ := hok i hil
      obtain ⟨x, hx⟩ : ∃ x : Nat, gi lens i = x := ⟨(gi lens i).toNat, by omega⟩
      rw [hx] at h1
      rw [Int.toNat_natCast] at h1
      generalize zr (lens.drop i) = z at *
      simp [wp_blk]
      by_cases hz3 : z < 3
      · have h1 := h1 hz3
        have hD1 := hD
        rw [h1, ← List.append_assoc] at hD1
        have hg : rGet S (A.length + 10 + D.length) 0 ((5 : Nat) : Int) = (x, A.length + 10 + D.length + 5, 0) := by
          rw [hS1, h1, hAl, show ∀ P0 : List Bool, P0 ++ (toB x 5 ++ tabT (lens.drop (i + 1)) ++ C) = P0 ++ (toB x 5 ++ (tabT (lens.drop (i + 1)) ++ C)) by intro P0; simp]
          exact rGet_toB _ _ (by omega) (by omega)
        refine getr_h (n := 5) (v := x) H hg (by omega) (by omega) (by simp [toB_length]; omega) (by simp [e5]) (by simp) ?_
        intro w5 H
        simp
        refine ite_r (t := true) (by simp; omega) (fun _ => ?_) (fun h => by cases h)
        refine app1_h slTI 3 H rfl (u := .int .i64 x) rfl (by omega) (by omega) (by simp) (by simp [e7]) (by simp) (fun _ _ => trivial) ?_
        intro vb v' w6 w7 H
        refine ⟨.inl rfl, ?_⟩
        have htk : intsV (lens.take i) ++ [Value.int .i64 x] = intsV (lens.take (i + 1)) := by rw [intsV_snoc, gi_take_snoc _ _ hil, hx]
        rw [htk] at H
        simp
        refine ⟨lens.length - (i + 1), by omega, by simp [e1], by simp [e4], by simp [e5], by simp [e6], i + 1, D ++ toB x 5, v', rfl, by omega, hD1, by simp, ?_⟩
        have e : (A ++ (toB (lens.length - 1) 10 ++ D)).length + 5 = A.length + 10 + (D ++ toB x 5).length := by simp [toB_length]; omega
        have e2 : toB (lens.length - 1) 10 ++ (D ++ toB x 5) = toB (lens.length - 1) 10 ++ D ++ toB x 5 := by simp
        rw [← e, e2]
        rw [hAl] at H
        exact H
      · have h2 := h2 hz3
        have hD1 := hD
        rw [h2, ← List.append_assoc] at hD1
        have hg : rGet S (A.length + 10 + D.length) 0 ((5 : Nat) : Int) = (31, A.length + 10 + D.length + 5, 0) := by
          rw [hS1, h2, hAl, show ∀ P0 : List Bool, P0 ++ (toB 31 5 ++ toB (z - 3) 6 ++ tabT (lens.drop (i + z)) ++ C) = P0 ++ (toB 31 5 ++ (toB (z - 3) 6 ++ (tabT (lens.drop (i + z)) ++ C))) by intro P0; simp]
          exact rGet_toB _ _ (by omega) (by omega)
        refine getr_h (n := 5) (v := 31) H hg (by omega) (by omega) (by simp [toB_length]; omega) (by simp [e5]) (by simp) ?_
        intro w5 H
        simp
        refine ite_r (t := false) (by simp) (fun h => by cases h) (fun _ => ?_)
        have e5' : (A ++ (toB (lens.length - 1) 10 ++ D)).length + 5 = (A ++ (toB (lens.length - 1) 10 ++ D) ++ toB 31 5).length := by simp [toB_length]; omega
        rw [hAl, e5'] at H
        refine getr_h (n := 6) (v := z - 3) H (by rw [hS1, h2, show A ++ (toB (lens.length - 1) 10 ++ D) ++ (toB 31 5 ++ toB (z - 3) 6 ++ tabT (lens.drop (i + z)) ++ C) = A ++ (toB (lens.length - 1) 10 ++ D) ++ toB 31 5 ++ (toB (z - 3) 6 ++ (tabT (lens.drop (i + z)) ++ C)) by simp]; exact rGet_toB _ _ (by omega) (by omega)) (by omega) (by omega) (by simp [toB_length]; omega) (by simp [e5]) (by simp) ?_
        intro w6 H
        have w3 : IntKind.i64.wrap (((z - 3 : Nat) : Int) + 3) = (z : Int) := by rw [wI (by omega) (by omega)]; omega
        simp [w3]
        refine appz_h (c := z) 3 H rfl (by omega) (by omega) (by simp [e7]) (by simp [w3]) ?_
        intro v' w7 H
        refine ⟨.inl rfl, ?_⟩
        have htk : intsV (lens.take i) ++ List.replicate z (Value.int .i64 0) = intsV (lens.take (i + z)) := by
          rw [List.take_add, hzall.2.2]
          simp [intsV]
        rw [htk] at H
        simp
        refine ⟨lens.length - (i + z), by omega, by simp [e1], by simp [e4], by simp [e5], by simp [e6], i + z, D ++ (toB 31 5 ++ toB (z - 3) 6), v', rfl, by omega, hD1, by simp, ?_⟩
        have e : (A ++ (toB (lens.length - 1) 10 ++ D) ++ toB 31 5).length + 6 = A.length + 10 + (D ++ (toB 31 5 ++ toB (z - 3) 6)).length := by simp [toB_length]; omega
        have e2 : toB (lens.length - 1) 10 ++ (D ++ (toB 31 5 ++ toB (z - 3) 6)) = toB (lens.length - 1) 10 ++ D ++ toB 31 5 ++ toB (z - 3) 6 := by simp
        rw [← e, e2]
        exact H

end Go.Proofs.Ytgjnfajdejkkjaa.VG
