/-
  The table is made.
-/
import Derived.Test.YtgjnfajdejkkjaaQr
namespace Go.Proofs.Ytgjnfajdejkkjaa.VG
open Go
set_option linter.unusedSimpArgs false
set_option linter.unusedVariables false
set_option maxRecDepth 20000

theorem tbF_lo (lo : Int) (fi : Nat → Int) (vs : Nat → Value) : tbF lo fi vs 0 = .int .i64 lo := rfl
theorem tbF_fi (lo : Int) (fi : Nat → Int) (vs : Nat → Value) {n : Nat} (h : n < 25) : tbF lo fi vs (1 + n) = .int .u64 (fi n) := by
  unfold tbF
  rw [if_neg (by omega), if_pos (by omega), show 1 + n - 1 = n by omega]
theorem tbF_vs (lo : Int) (fi : Nat → Int) (vs : Nat → Value) {n : Nat} : tbF lo fi vs (26 + n) = vs n := by
  unfold tbF
  rw [if_neg (by omega), if_neg (by omega), show 26 + n - 26 = n by omega]

theorem ite_j {P : Program} {Q : Exit → Env → World → Prop} {env : Env} {w : World} {c : E} {a b k : S} (J : Env → World → Prop) (t : Bool) (hc : c.ev env w = .bool t) (ha : t = true → a.wp P (thn J Q) env w) (hb : t = false → b.wp P (thn J Q) env w)
    (hk : ∀ env w, J env w → k.wp P Q env w) : (S.ite c a b k).wp P Q env w := by
  cases t with
  | true => rw [wp_ite_t hc]; exact wp_weaken a (thn_imp (fun env' w' h => hk env' w' h) (fun _ _ _ h => h)) (ha rfl)
  | false => rw [wp_ite_f hc]; exact wp_weaken b (thn_imp (fun env' w' h => hk env' w' h) (fun _ _ _ h => h)) (hb rfl)

set_option maxHeartbeats 8000000 in
theorem list_c {G : Nat → Prop} {w : World} {v u : Value} {l : List Int} (hr : Rd G w v l.length (intsV l)) (hu : Rd G w u l.length (wdsV (cdW l))) (hf : fullB l = true) :
    Calls Try.prog 46 [v, u].toArray w (Ret fun r w' => ∃ t, r = .pointer (some ⟨t, 0, none⟩) ∧ Hp w w' [.tb t (tbl l (rk l).length).1 (tbl l (rk l).length).2.1 (tbl l (rk l).length).2.2]) := by
  refine F_sound c46 (by simp [fc46]) ?_
  obtain ⟨hS, hL⟩ := hr.sl
  obtain ⟨uS, uL⟩ := hu.sl
  have hM : maxLen = 9223372036854775807 := rfl
  have hlen := (full_parts hf).1
  simp [fc46, s46]
  refine box_r (.agg (tbC 0 (fun _ => 0) (fun _ => .slice none 0 0))) (by simp; rfl) ?_
  rintro t w1 rfl hb M1 hsz
  refine ⟨trivial, ?_⟩
  have T0 : Tb w1 w.heap.size 0 (fun _ => 0) (fun _ => []) (fun _ => .slice none 0 0) := ⟨⟨_, hb⟩, fun n hn => World.ownsRow_nil _ _ _ _, fun n m _ _ _ k hk => by simp [Value.ownBlock] at hk, fun n _ => by simp [Value.ownBlock]⟩
  have H : Hp w w1 [.tb w.heap.size 0 (fun _ => 0) (fun _ => [])] := (Hp.nil w).add (i := It.tb w.heap.size 0 (fun _ => 0) (fun _ => [])) (F := tbB w.heap.size (fun _ => .slice none 0 0)) M1 ⟨_, T0, fun k => Iff.rfl⟩ (fun k hk => by
    rcases hk with rfl | ⟨n, _, e⟩
    · omega
    · simp [Value.ownBlock] at e)
  generalize w.heap.size = t at *
  simp
  refine call_h (ranked_c (hr.at H.mod) (by omega)) (by simp) ?_
  intro rv w2 HR
  have H2 : Hp w w2 ([.tb t 0 (fun _ => 0) (fun _ => [])] ++ [.own 3 1 rv (rk l).length (natsV (rk l))]) := H.join HR
  clear H HR
  obtain ⟨rS, rL⟩ := (H2.rd 1 rfl).sl
  have hrl := rk_le l
  simp [rS, rL]
  refine for_r (rk l).length (fun i env' w' => env' 0 = v ∧ env' 1 = u ∧ env' 5 = .pointer (some ⟨t, 0, none⟩) ∧ env' 12 = rv ∧ env' 13 = .int .i64 (rk l).length ∧ env' 14 = .int .i64 i ∧
    Hp w w' [.tb t (tbl l i).1 (tbl l i).2.1 (tbl l i).2.2, .own 3 1 rv (rk l).length (natsV (rk l))]) ?_ ?_ ?_
  · exact ⟨by simp, by simp, by simp, by simp, by simp, by simp, H2⟩
  · rintro i env w3 hi ⟨e0, e1, e5, e12, e13, e14, H⟩
    have wi : IntKind.i64.wrap ((i : Int) + 1) = ((i + 1 : Nat) : Int) := by rw [wI (by omega) (by omega)]; omega
    obtain ⟨k1, k2, k3⟩ := rk_lt hi
    have cs := rdN (H.rd 1 rfl) i hi
    have ps := rdN_ptr (H.rd 1 rfl) (by omega)
    have hx := (hr.at H.mod).gi (gnn (rk l) i) k1
    have px := hr.some (by omega)
    have hsn := tbl_snoc hi
    have htl := tbl_len l (gi l (gnn (rk l) i)).toNat i (by omega)
    obtain ⟨F, ⟨vs, T, hF⟩, hF2, up⟩ := H.upd 0 rfl
    have hwd : ∀ w', Mod none' w3 w' → w'.cell? ((slB u).add (gnn (rk l) i)) = some (.int .u64 (gi (cdW l) (gnn (rk l) i))) := fun w' m => rdW (hu.at (H.mod.tr m)) _ (by rw [show (cdW l).length = l.length from cdN_len l _]; exact k1)
    have pu := rdW_ptr hu (by rw [show (cdW l).length = l.length from cdN_len l _]; omega)
    generalize gnn (rk l) i = s at *
    obtain ⟨n, hn⟩ : ∃ n : Nat, gi l s = n := ⟨(gi l s).toNat, by omega⟩
    rw [hn] at k2 k3 hx htl
    rw [Int.toNat_natCast] at htl
    have hn25 : n < 25 := by omega
    unfold stepT at hsn
    rw [hn, Int.toNat_natCast] at hsn
    generalize tbl l i = st at *
    obtain ⟨lo, fi, sy⟩ := st
    simp only at *
    have cv := T.cell (o := 26 + n) (by omega)
    rw [tbF_vs] at cv
    have hrow := T.row n hn25
    obtain ⟨vS, vL⟩ := (Rd.of_owns hrow).sl
    simp [e13, e14]
    refine ite_r (t := true) (by simp [hi]) (fun _ => ?_) (fun h => by cases h)
    simp [wp_blk, e0, e5, e12, e14, rS, rL, ps, cs, hi, hS, hL, px, hx, k1, cv, vS, vL, hn25]
    refine ⟨by omega, ?_⟩
    have fr := H.own 1 rfl
    refine ite_j (fun env' w' => env' 0 = v ∧ env' 1 = u ∧ env' 5 = .pointer (some ⟨t, 0, none⟩) ∧ env' 7 = .int .i64 s ∧ env' 8 = .int .i64 n ∧ env' 12 = rv ∧ env' 13 = .int .i64 (rk l).length ∧ env' 14 = .int .i64 i ∧
      Hp w w' [.tb t lo (if sy n = [] then upG fi n (gi (cdW l) s) else fi) sy, .own 3 1 rv (rk l).length (natsV (rk l))]) (decide (sy n = [])) ?_ ?_ ?_ ?_
    · simp
      rcases sy n with _ | ⟨a, r⟩ <;> simp
      omega
    · intro hnil
      have hnil' : sy n = [] := by simpa using hnil
      have cw := hwd w3.drew (Mod.refl _ _).drew
      simp at cw
      obtain ⟨el, hblk⟩ := (T.mod (Mod.refl (fun _ => False) w3).drew (fun h => h) (fun _ _ _ _ h => h)).blk
      simp [wp_draw, e0, e1, e5, uS, uL, pu, cw, k1, hn25]
      refine ⟨by omega, ?_⟩
      refine st_r (b := t) (o := 1 + n) (v := .int .u64 (gi (cdW l) s)) (by simp [e5]) (by simp) hblk (by rw [tbC_size]; omega) rfl ?_
      intro w4 hb4 M4 _
      rw [tbC_fi _ _ _ _ hn25] at hb4
      refine ⟨trivial, ?_⟩
      have M4' : Mod (fun k => k = t) w3 w4 := (((Mod.refl (fun k => k = t) w3).drew).tr M4)
      have T4 := T.set M4' hb4
      rw [if_pos hnil']
      have H4 := up (.tb t lo (upG fi n (gi (cdW l) s)) sy) w4 F (M4'.mono (fun k _ h => (hF k).2 (.inl h))) ⟨vs, T4, hF⟩ (fun k hk => .inl hk)
      simp
      exact ⟨e0, e1, e5, e12, e13, e14, H4⟩
    · intro hnil
      have hnil' : ¬ sy n = [] := by simpa using hnil
      rw [if_neg hnil']
      simp
      exact ⟨e0, e1, e5, e12, e13, e14, H⟩
    · clear up T hF hF2 F H cv hrow vS vL
      generalize hfi : (if sy n = [] then upG fi n (gi (cdW l) s) else fi) = fi' at *
      rintro env w4 ⟨e0, e1, e5, e7, e8, e12, e13, e14, H⟩
      obtain ⟨F, ⟨vs, T, hF⟩, hF2, up⟩ := H.drew.upd 0 rfl
      have cv := T.cell (o := 26 + n) (by omega)
      rw [tbF_vs] at cv
      have hrow := T.row n hn25
      obtain ⟨vS, vL⟩ := (Rd.of_owns hrow).sl
      simp at cv
      simp [wp_draw, e5, e7, e8, cv, hn25]
      refine ⟨by omega, ?_⟩
      refine app1_r slTI hrow (u := .int .i64 s) rfl (Nat.zero_le _) (by omega) (by omega) (by simp [e7]) (by simp) (by simp) (fun w' M' => by
        simp [promsOk, promOk, e5, e8]
        exact same_one cv (M'.cell cv (fun h => h))) ?_
      intro vb v' w5 w6 M5 o6 M6 hob hne
      refine ⟨trivial, ?_⟩
      have htlt : t < w4.drew.heap.size := by obtain ⟨el, hb⟩ := T.blk; exact heap_lt hb
      have hvlt : ∀ m, m < 25 → ∀ k, (vs m).ownBlock = some k → k < w4.drew.heap.size := fun m hm k hk => ((T.row m hm).lt k hk).2
      have hv't : v'.ownBlock ≠ some t := fun e => by
        rcases hob t e with h | h
        · exact T.nt n hn25 h
        · omega
      have hv'm : ∀ m, m < 25 → m ≠ n → ∀ k, v'.ownBlock = some k → (vs m).ownBlock ≠ some k := fun m hm hmn k hk e => by
        rcases hob k hk with h | h
        · exact T.ne n m hn25 hm (fun h => hmn h.symm) k h e
        · have := hvlt m hm k e; omega
      obtain ⟨el, hblk⟩ := T.blk
      have hb6 := M6.heap hblk (fun h => T.nt n hn25 h)
      simp [e5, e8, hn25]
      refine ⟨by omega, ?_⟩
      refine st_r (b := t) (o := 26 + n) (v := v') (by simp [e5, e8]) (by simp) hb6 (by rw [tbC_size]; omega) (by
        rcases o6.2 with ⟨h, _⟩ | ⟨g, cap, cur, h, _⟩
        · rw [h]; rfl
        · rw [h]; rfl) ?_
      intro w7 hb7 M7 _
      rw [tbC_vs _ _ _ _ hn25] at hb7
      refine ⟨trivial, ?_⟩
      simp [e5, e8]
      refine st_r (b := t) (o := 0) (v := .int .i64 n) (by simp [e5]) (by simp [e8]) hb7 (by rw [tbC_size]; omega) rfl ?_
      intro w8 hb8 M8 _
      rw [tbC_lo] at hb8
      refine ⟨trivial, ?_⟩
      have M78 : Mod (fun k => k = t) w6 w8 := M7.tr M8
      have T8 : Tb w8 t n fi' (upG sy n (sy n ++ [s])) (upG vs n v') := by
        refine ⟨⟨el, hb8⟩, fun m hm => ?_, fun a b ha hb hab k h1 h2 => ?_, fun m hm => ?_⟩
        · unfold upG
          by_cases h : m = n
          · rw [if_pos h, if_pos h, List.length_append, ← natsV_snoc]
            exact M78.owns o6 (fun k hk e => hv't (by rw [hk, e]))
          · rw [if_neg h, if_neg h]
            refine M78.owns (M6.owns (T.row m hm) (fun k hk e => T.ne m n hm hn25 h k hk e)) (fun k hk e => T.nt m hm (by rw [hk, e]))
        · unfold upG at h1 h2
          by_cases h : a = n
          · rw [if_pos h] at h1
            rw [if_neg (by omega)] at h2
            exact hv'm b hb (by omega) k h1 h2
          · rw [if_neg h] at h1
            by_cases h' : b = n
            · rw [if_pos h'] at h2
              exact hv'm a ha h k h2 h1
            · rw [if_neg h'] at h2
              exact T.ne a b ha hb hab k h1 h2
        · unfold upG
          by_cases h : m = n
          · rw [if_pos h]; exact hv't
          · rw [if_neg h]; exact T.nt m hm
      have M68 : Mod F w4.drew w8 := (M6.mono (fun k _ h => (hF k).2 (.inr ⟨n, hn25, h⟩))).trans (M78) (fun k _ h => (hF k).2 (.inl h))
      have H8 := up (.tb t n fi' (upG sy n (sy n ++ [s]))) w8 (tbB t (upG vs n v')) M68 ⟨_, T8, fun k => Iff.rfl⟩ (fun k hk => by
        rcases hk with rfl | ⟨m, hm, e⟩
        · exact .inl ((hF _).2 (.inl rfl))
        · unfold upG at e
          by_cases h : m = n
          · rw [if_pos h] at e
            rcases hob k e with h | h
            · exact .inl ((hF _).2 (.inr ⟨n, hn25, h⟩))
            · exact .inr h
          · rw [if_neg h] at e
            exact .inl ((hF _).2 (.inr ⟨m, hm, e⟩)))
      simp [e14, wi]
      rw [hsn]
      exact ⟨e0, e1, e5, e12, e13, H8⟩
  · rintro env w3 ⟨e0, e1, e5, e12, e13, e14, H⟩
    simp [e13, e14]
    refine ite_r (t := false) (by simp) (fun h => by cases h) (fun _ => ?_)
    simp [e5]
    exact H.drop 1

end Go.Proofs.Ytgjnfajdejkkjaa.VG
