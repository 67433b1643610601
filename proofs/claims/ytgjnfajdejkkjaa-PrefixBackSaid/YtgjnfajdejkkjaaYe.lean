/-
  The law: a code's table and all symbols are got as they were put.
-/
import Derived.Test.YtgjnfajdejkkjaaYd
import Derived.Test.YtgjnfajdejkkjaaXg
namespace Go.Proofs.Ytgjnfajdejkkjaa.VG
open Go
set_option linter.unusedSimpArgs false
set_option linter.unusedVariables false
set_option maxRecDepth 20000

def uf (freq : List Int) (i : Nat) : List Nat := (List.range i).filter fun k => decide (0 < gi freq k)
theorem uf_succ (freq : List Int) (i : Nat) : uf freq (i + 1) = uf freq i ++ (if 0 < gi freq i then [i] else []) := by
  unfold uf
  rw [List.range_succ, List.filter_append]
  by_cases h : 0 < gi freq i <;> simp [h]
theorem uf_le (freq : List Int) (i : Nat) : (uf freq i).length ≤ i := by
  have := List.length_filter_le (fun k => decide (0 < gi freq k)) (List.range i)
  rwa [List.length_range] at this
/-- The symbols picked. -/
def pkx (freq picks : List Int) (i : Nat) : List Nat := (List.range i).map fun j => gnn (usd freq) ((gi picks j).toNat % (usd freq).length)
theorem pkx_succ (freq picks : List Int) (i : Nat) : pkx freq picks (i + 1) = pkx freq picks i ++ [gnn (usd freq) ((gi picks i).toNat % (usd freq).length)] := by unfold pkx; rw [List.range_succ, List.map_append]; rfl
theorem pkx_len (freq picks : List Int) (i : Nat) : (pkx freq picks i).length = i := by simp [pkx]
theorem pkx_mem {freq picks : List Int} {i s : Nat} (h0 : 0 < (usd freq).length) (h : s ∈ pkx freq picks i) : s < freq.length ∧ 0 < gi freq s := by
  unfold pkx at h
  rw [List.mem_map] at h
  obtain ⟨j, _, rfl⟩ := h
  exact usd_mem.1 (gnn_mem (Nat.mod_lt _ h0))

set_option maxHeartbeats 8000000 in
theorem pback_law {F G : Nat → Prop} {w : World} {v u : Value} {freq picks : List Int} (most : Int) (hr : Rd F w v freq.length (intsV freq)) (hq : Rd G w u picks.length (picks.map fun n => Value.int .u16 n)) (hpk : ∀ x ∈ picks, 0 ≤ x ∧ x < 65536) (hm : freq.length ≤ maxLen) :
    Calls Try.prog 10 [v, .int .i64 most, u].toArray w (Ret fun r w' => r = .bool true ∧ Mod none' w w') := by
  refine F_sound c10 (by simp [fc10]) ?_
  obtain ⟨hS, hL⟩ := hr.sl
  obtain ⟨qS, qL⟩ := hq.sl
  have hM : maxLen = 9223372036854775807 := rfl
  simp [fc10, s10]
  refine callm known_c (by simp) ?_
  intro w1 M1
  have H := Hp.ofMod M1
  simp
  refine ite_r (t := false) (by simp) (fun h => by cases h) (fun _ => ?_)
  simp [hS, hL, qS, qL]
  by_cases hbig : 100 < freq.length ∨ 100 < picks.length
  · refine ite_r (t := true) (by simp; omega) (fun _ => ?_) (fun h => by cases h)
    simp
    exact M1
  refine ite_r (t := false) (by simp; omega) (fun h => by cases h) (fun _ => ?_)
  simp
  refine call_h (lengths_c most (hr.at H.mod) (by omega) hm) (by simp) ?_
  rintro r w2 ⟨vl, rfl, HL⟩
  replace H : Hp w w2 [.own 3 1 vl (lenQ freq most).length (intsV (lenQ freq most))] := H.join HL
  clear HL
  obtain ⟨lS, lL⟩ := (H.rd 0 rfl).sl
  simp
  by_cases he : lenE freq most = 0
  · have hlen := lq_len he
    have hof := fun s hs => lq_of he (s := s) hs
    have hfu := lq_full he
    obtain ⟨_, _, _, _, _, _, _, hu0, _⟩ := lq_ok he
    rw [he]
    generalize lenQ freq most = l at *
    rw [hlen] at H lL
    refine ite_r (t := false) (by simp) (fun h => by cases h) (fun _ => ?_)
    simp
    replace H := H.nilS (e := 3) (size := 1)
    replace H : Hp w w2 [.own 3 1 vl freq.length (intsV l), .own 3 1 (.slice none 0 0) 0 []] := H
    refine for_r freq.length (fun i env' w' => env' 0 = v ∧ env' 2 = u ∧ env' 7 = vl ∧ env' 10 = .slice none 0 0 ∧ env' 11 = .int .i64 i ∧ ∃ uu, env' 9 = uu ∧ Hp w w' [.own 3 1 vl freq.length (intsV l), .own 3 1 uu (uf freq i).length (natsV (uf freq i))]) ?_ ?_ ?_
    · exact ⟨by simp, by simp, by simp, by simp, by simp, _, by simp, H⟩
    · rintro i env w3 hi ⟨e0, e2, e7, e10, e11, uu, e9, H⟩
      have wi : IntKind.i64.wrap ((i : Int) + 1) = ((i + 1 : Nat) : Int) := by rw [wI (by omega) (by omega)]; omega
      have cf := (hr.at H.mod).gi i hi
      have pf := hr.some (by omega)
      have hsucc := uf_succ freq i
      have hle := uf_le freq i
      simp [e0, e11, hS, hL]
      refine ite_r (t := true) (by simp [hi]) (fun _ => ?_) (fun h => by cases h)
      simp [wp_blk, e0, e11, hS, hL, pf, cf, hi]
      by_cases hp : 0 < gi freq i
      · refine ite_r (t := true) (by simp [hp]) (fun _ => ?_) (fun h => by cases h)
        refine app1_h slTI 1 H rfl (u := .int .i64 i) rfl (by omega) (by omega) (by simp [e11]) (by simp [e9]) (by simp) (fun _ _ => trivial) ?_
        intro vb v' w5 w6 H
        refine ⟨.inl rfl, ?_⟩
        rw [if_pos hp] at hsucc
        rw [natsV_snoc] at H
        simp [e11, wi]
        exact ⟨by simp [e0], by simp [e2], by simp [e7], by simp [e10], by rw [hsucc, List.length_append]; exact H⟩
      · refine ite_r (t := false) (by simp; omega) (fun h => by cases h) (fun _ => ?_)
        rw [if_neg hp, List.append_nil] at hsucc
        simp [e11, wi]
        exact ⟨by simp [e0], by simp [e2], by simp [e7], by simp [e10], by rw [hsucc, e9]; exact H⟩
    · rintro env w3 ⟨e0, e2, e7, e10, e11, uu, e9, H⟩
      replace H : Hp w w3 [.own 3 1 vl freq.length (intsV l), .own 3 1 uu (usd freq).length (natsV (usd freq))] := H
      obtain ⟨uS, uL⟩ := (H.rd 1 rfl).sl
      have hul : (usd freq).length ≤ freq.length := by
        have := uf_le freq freq.length
        exact this
      simp [e0, e11, hS, hL]
      refine ite_r (t := false) (by simp) (fun h => by cases h) (fun _ => ?_)
      simp
      replace H := H.nilS (e := 3) (size := 1)
      replace H : Hp w w3 [.own 3 1 vl freq.length (intsV l), .own 3 1 uu (usd freq).length (natsV (usd freq)), .own 3 1 (.slice none 0 0) 0 []] := H
      refine for_r picks.length (fun i env' w' => env' 2 = u ∧ env' 7 = vl ∧ env' 9 = uu ∧ env' 12 = .int .i64 i ∧ ∃ ul, env' 10 = ul ∧ Hp w w' [.own 3 1 vl freq.length (intsV l), .own 3 1 uu (usd freq).length (natsV (usd freq)), .own 3 1 ul (pkx freq picks i).length (natsV (pkx freq picks i))]) ?_ ?_ ?_
      · exact ⟨by simp [e2], by simp [e7], by simp [e9], by simp, _, by simp [e10], H⟩
      · rintro i env w4 hi ⟨e2, e7, e9, e12, ul, e10, H⟩
        have wi : IntKind.i64.wrap ((i : Int) + 1) = ((i + 1 : Nat) : Int) := by rw [wI (by omega) (by omega)]; omega
        have cq := (hq.at H.mod).cell i (.int .u16 (gi picks i)) (by simp [gi, hi])
        have pq := ((hq.at H.mod).ptr (by simp; omega)).1
        obtain ⟨x0, x1⟩ := hpk _ (gi_mem picks i hi)
        have hsucc := pkx_succ freq picks i
        have hpl := pkx_len freq picks i
        obtain ⟨X, hX⟩ : ∃ X : Nat, gi picks i = X := ⟨(gi picks i).toNat, by omega⟩
        rw [hX] at cq hsucc
        rw [Int.toNat_natCast] at hsucc
        have wx : IntKind.i64.wrap (X : Int) = (X : Int) := wI (by omega) (by omega)
        have tx : (X : Int).tmod ((usd freq).length : Int) = ((X % (usd freq).length : Nat) : Int) := by rw [Int.tmod_eq_emod_of_nonneg (by omega)]; rfl
        have hlt := Nat.mod_lt X (show 0 < (usd freq).length by omega)
        have cu := rdN (H.rd 1 rfl) _ hlt
        have pu := rdN_ptr (H.rd 1 rfl) (by omega)
        have hu0' : 0 < (usd freq).length := hu0
        generalize X % (usd freq).length = t at *
        have wt' : IntKind.i64.wrap (t : Int) = (t : Int) := wI (by omega) (by omega)
        simp [e2, e9, e12, qS, qL, uS, uL]
        refine ite_r (t := true) (by simp [hi]; omega) (fun _ => ?_) (fun h => by cases h)
        simp [wp_blk, e2, e9, e12, qS, qL, uS, uL, cq, pq, wx, tx, cu, pu, hi, hlt, wt']
        refine ⟨by intro h; rw [h] at hu0'; simp at hu0', ?_⟩
        refine app1_h slTI 2 H rfl (u := .int .i64 (gnn (usd freq) t)) rfl (by omega) (by omega) (by simp) (by simp [e10]) (by simp) (fun _ _ => trivial) ?_
        intro vb v' w5 w6 H
        refine ⟨.inl rfl, ?_⟩
        rw [natsV_snoc] at H
        simp [e12, wi]
        exact ⟨by simp [e2], by simp [e7], by simp [e9], by rw [hsucc, List.length_append]; exact H⟩
      · rintro env w4 ⟨e2, e7, e9, e12, ul, e10, H⟩
        have hpl := pkx_len freq picks picks.length
        have hxs : ∀ s ∈ pkx freq picks picks.length, s < freq.length ∧ 0 < gi freq s := fun s hs => pkx_mem hu0 hs
        generalize pkx freq picks picks.length = xs at *
        simp [e2, e9, e12, qS, qL, uS, uL]
        refine ite_r (t := false) (by simp) (fun h => by cases h) (fun _ => ?_)
        simp
        have hxI : ∀ x ∈ xs.map (fun n : Nat => (n : Int)), 0 ≤ x ∧ x < l.length ∧ gi l x.toNat ≠ 0 := fun x hx => by
          rw [List.mem_map] at hx
          obtain ⟨s, hs, rfl⟩ := hx
          obtain ⟨a, b⟩ := hxs s hs
          have := (hof s a).2.2.2 b
          rw [Int.toNat_natCast]
          omega
        have hxl : (xs.map (fun n : Nat => (n : Int))).length = picks.length := by rw [List.length_map, hpl]
        replace H : Hp w w4 [.own 3 1 vl l.length (intsV l), .own 3 1 uu (usd freq).length (natsV (usd freq)), .own 3 1 ul (xs.map (fun n : Nat => (n : Int))).length (intsV (xs.map (fun n : Nat => (n : Int))))] := by
          rw [hlen, hxl, ← hpl]; exact H
        generalize xs.map (fun n : Nat => (n : Int)) = ys at *
        refine wrbox_h H (by simp) ?_
        intro b w5 H M5
        refine ⟨.inl rfl, ?_⟩
        replace H : Hp w w5 [.wr b [], .own 3 1 vl l.length (intsV l), .own 3 1 uu (usd freq).length (natsV (usd freq)), .own 3 1 ul ys.length (intsV ys)] := H.perm (List.perm_append_comm (l₂ := [_]))
        simp
        refine call_h (puttab_h H (fun _ _ h => h.rd 1 rfl) (by simp) hfu) (by simp [e7]) ?_
        rintro r w6 ⟨rfl, H⟩
        rw [List.nil_append] at H
        have hTl := tabL_len l.length l
        have hTb : (tabB l).length ≤ 10 + 11 * l.length := by
          unfold tabB tabT
          rw [List.length_append, toB_length]; omega
        have hSb := symsB_len l ys (fun x hx => by
          obtain ⟨a, b, _⟩ := hxI x hx
          exact (full_ok hfu (by omega)).2)
        simp
        refine call_h (put_h (lens := l) (l := ys) H (fun _ _ h => h.rd 1 rfl) (fun _ _ h => h.rd 3 rfl) (by omega) (by omega) hfu hxI (fun x hx => by
          obtain ⟨a, b, _⟩ := hxI x hx
          obtain ⟨c, hc, hlt⟩ := word_fits hfu (i := x.toNat) (by omega)
          rw [hc, Int.toNat_natCast]
          exact ⟨by omega, hlt⟩)) (by simp [e7, e10]) ?_
        rintro r w7 ⟨rfl, H⟩
        simp
        obtain ⟨FW, hW, _⟩ := H.wr 0 rfl
        have hbl : (tabB l ++ symsB l ys).length < 1099511627776 := by rw [List.length_append]; omega
        refine call_h (bytes_c hW hbl) (by simp) ?_
        intro vb w8 A1
        replace H := H.same A1.2
        have hpb := packB_length (tabB l ++ symsB l ys)
        refine call_h (new_c (Rd.of_owns A1.1) (packB_fits _) (by rw [List.length_append] at hbl hpb; omega)) (by simp) ?_
        rintro r w9 ⟨b2, G2, rfl, hR, M9, hG⟩
        replace H := H.newRr hR M9 hG
        replace H : Hp w w9 (.rr b2 (packB ([] ++ (tabB l ++ symsB l ys))) ([] : List Bool).length 0 :: [.wr b (tabB l ++ symsB l ys), .own 3 1 vl l.length (intsV l), .own 3 1 uu (usd freq).length (natsV (usd freq)), .own 3 1 ul ys.length (intsV ys)]) := H.perm (List.perm_append_comm (l₂ := [_]))
        simp [e9, uS, uL]
        refine ite_r (t := false) (by simp; intro h; rw [h] at hu0; simp at hu0) (fun h => by cases h) (fun _ => ?_)
        simp
        refine call_h (gettab_h H hfu) (by simp) ?_
        rintro r w10 ⟨um, rfl, H⟩
        simp
        have hGP := getP_back hfu (tabB l) [] hxI (by omega)
        rw [List.append_nil] at hGP
        replace H : Hp w w10 (.rr b2 (packB (tabB l ++ symsB l ys)) (tabB l).length 0 :: [.own 3 1 um l.length (intsV l), .wr b (tabB l ++ symsB l ys), .own 3 1 vl l.length (intsV l), .own 3 1 uu (usd freq).length (natsV (usd freq)), .own 3 1 ul ys.length (intsV ys)]) := by
          have e : ([] : List Bool).length + (tabB l).length = (tabB l).length := by simp
          rw [e] at H
          exact H
        obtain ⟨yS, yL⟩ := (H.rd 5 rfl).sl
        simp [e10, yS, yL]
        refine call_h (get2_h (n := ys.length) H (by omega) (fun _ h => h.rd 1 rfl)) (by simp [e10, yS, yL]) ?_
        rw [hGP]
        rintro r w11 ⟨ux, rfl, H⟩
        replace H : Hp w w11 [.rr b2 (packB (tabB l ++ symsB l ys)) ((tabB l).length + (symsB l ys).length) 0, .own 3 1 ux ys.length (intsV ys), .own 3 1 um l.length (intsV l), .wr b (tabB l ++ symsB l ys), .own 3 1 vl l.length (intsV l), .own 3 1 uu (usd freq).length (natsV (usd freq)), .own 3 1 ul ys.length (intsV ys)] := H
        simp
        refine ifg_r (t := true) (by simp) (fun _ => ?_) (fun h => (h rfl).elim)
        refine callm (sameInts_c (l := l) (m := l) (H.rd 2 rfl) (H.rd 4 rfl) (by unfold maxLen; omega)) (by simp [e7]) ?_
        intro w12 M12
        replace H := H.same M12
        simp
        refine ifg_r (t := true) (by simp) (fun _ => ?_) (fun h => (h rfl).elim)
        refine callm (sameInts_c (l := ys) (m := ys) (H.rd 1 rfl) (H.rd 6 rfl) (by unfold maxLen; omega)) (by simp [e10]) ?_
        intro w13 M13
        replace H := H.same M13
        simp
        refine ifg_r (t := true) (by simp) (fun _ => ?_) (fun h => (h rfl).elim)
        obtain ⟨FR, hR, _⟩ := H.rr 0 rfl
        refine call_r _ (at_c hR) (by simp) ?_
        rintro r _ ⟨rfl, rfl⟩
        refine ⟨by simp [promsOk], ?_⟩
        simp
        refine ifg_r (t := true) (by simp) (fun _ => ?_) (fun h => (h rfl).elim)
        obtain ⟨FW, hW, _⟩ := H.wr 3 rfl
        refine callp (len_c hW) (by simp) ?_
        simp
        exact H.mod
  · have hQ : lenQ freq most = [] := by unfold lenQ; rw [if_pos he]
    rw [hQ] at lL
    refine ite_r (t := true) (by simp [he]) (fun _ => ?_) (fun h => by cases h)
    simp [lS, lL]
    exact H.mod

/-- A row of uint16 as it comes in. -/
theorem hrow_of {H : Type} {enc : TypeId × Value → H} {w : World} {a : Option Addr} {len cap : Nat} (h : Sees enc Try.prog w 50 [.slice a len cap]) :
    ∃ l : List Int, l.length = len ∧ Rd (fun b => b < w.heap.size) w (.slice a len cap) len (l.map fun n => Value.int .u16 n) ∧ ∀ x ∈ l, 0 ≤ x ∧ x < 65536 := by
  obtain ⟨l, h1, h2, _, h4, h5⟩ := row_of (e := 51) (k := .u16) (by kernel_rfl) (by kernel_rfl) (by kernel_rfl) h
  refine ⟨l, h1, h4, fun x hx => ?_⟩
  have : 0 ≤ x ∧ x ≤ 65535 := by simpa [Lit.wf, IntKind.min, IntKind.max, IntKind.signed, IntKind.bits] using h5 x hx
  omega

end Go.Proofs.Ytgjnfajdejkkjaa.VG
