/-
  The table of a code: for each length the first word and the symbols (and what goes with it: parts Qr Qs Qt).
-/
import Derived.Test.YtgjnfajdejkkjaaQp
import Derived.Test.YtgjnfajdejkkjaaRe

/-! ## The table of a code: for each length the first word and the symbols. -/
namespace Go.Proofs.Ytgjnfajdejkkjaa.VG
open Go
set_option linter.unusedSimpArgs false
set_option linter.unusedVariables false
set_option maxRecDepth 20000

def upG {α : Type} (f : Nat → α) (o : Nat) (x : α) : Nat → α := fun i => if i = o then x else f i
def tbF (lo : Int) (fi : Nat → Int) (vs : Nat → Value) (o : Nat) : Value := if o = 0 then .int .i64 lo else if o < 26 then .int .u64 (fi (o - 1)) else vs (o - 26)
def tbC (lo : Int) (fi : Nat → Int) (vs : Nat → Value) : Array Value := ((List.range 51).map (tbF lo fi vs)).toArray
theorem tbC_size (lo : Int) (fi : Nat → Int) (vs : Nat → Value) : (tbC lo fi vs).size = 51 := by simp [tbC]
theorem tbC_get (lo : Int) (fi : Nat → Int) (vs : Nat → Value) {o : Nat} (h : o < 51) : (tbC lo fi vs)[o]? = some (tbF lo fi vs o) := by simp [tbC, h]
theorem tbC_set {lo lo' : Int} {fi fi' : Nat → Int} {vs vs' : Nat → Value} {o : Nat} {v : Value} (ho : o < 51) (h : ∀ i, i < 51 → tbF lo' fi' vs' i = if i = o then v else tbF lo fi vs i) : (tbC lo fi vs).setIfInBounds o v = tbC lo' fi' vs' := by
  apply Array.ext
  · simp [tbC]
  · intro i h1 h2
    have hi : i < 51 := by simpa [tbC] using h2
    rw [Array.getElem_setIfInBounds]
    · simp only [tbC, List.getElem_toArray, List.getElem_map, List.getElem_range]
      rw [h i hi]
      by_cases e : o = i
      · subst e; simp
      · rw [if_neg e, if_neg (fun h => e h.symm)]
    · simpa [tbC] using hi
theorem tbC_lo (lo x : Int) (fi : Nat → Int) (vs : Nat → Value) : (tbC lo fi vs).setIfInBounds 0 (.int .i64 x) = tbC x fi vs := tbC_set (by omega) fun i hi => by
  unfold tbF
  by_cases h : i = 0 <;> simp [h]
theorem tbC_fi (lo x : Int) (fi : Nat → Int) (vs : Nat → Value) {n : Nat} (hn : n < 25) : (tbC lo fi vs).setIfInBounds (1 + n) (.int .u64 x) = tbC lo (upG fi n x) vs := tbC_set (by omega) fun i hi => by
  unfold tbF upG
  by_cases h : i = 1 + n
  · subst h
    rw [if_neg (by omega), if_pos (by omega), if_pos (by omega), if_pos rfl]
  · rw [if_neg h]
    by_cases h0 : i = 0
    · rw [if_pos h0, if_pos h0]
    · rw [if_neg h0, if_neg h0]
      by_cases h1 : i < 26
      · rw [if_pos h1, if_pos h1, if_neg (by omega)]
      · rw [if_neg h1, if_neg h1]
theorem tbC_vs (lo : Int) (fi : Nat → Int) (vs : Nat → Value) (v : Value) {n : Nat} (hn : n < 25) : (tbC lo fi vs).setIfInBounds (26 + n) v = tbC lo fi (upG vs n v) := tbC_set (by omega) fun i hi => by
  unfold tbF upG
  by_cases h : i = 26 + n
  · subst h
    rw [if_neg (by omega), if_neg (by omega), if_pos (by omega), if_pos rfl]
  · rw [if_neg h]
    by_cases h0 : i = 0
    · rw [if_pos h0, if_pos h0]
    · rw [if_neg h0, if_neg h0]
      by_cases h1 : i < 26
      · rw [if_pos h1, if_pos h1]
      · rw [if_neg h1, if_neg h1, if_neg (by omega)]

structure Tb (w : World) (t : Nat) (lo : Int) (fi : Nat → Int) (sy : Nat → List Nat) (vs : Nat → Value) : Prop where
  blk : ∃ el, w.heap[t]? = some (.cells (tbC lo fi vs) el (0, 0))
  row : ∀ n, n < 25 → w.ownsRow 0 3 1 (vs n) (sy n).length (natsV (sy n))
  ne : ∀ n m, n < 25 → m < 25 → n ≠ m → ∀ k, (vs n).ownBlock = some k → (vs m).ownBlock ≠ some k
  nt : ∀ n, n < 25 → (vs n).ownBlock ≠ some t
theorem Tb.mod {w w' : World} {t : Nat} {lo : Int} {fi : Nat → Int} {sy : Nat → List Nat} {vs : Nat → Value} {S : Nat → Prop} (h : Tb w t lo fi sy vs) (m : Mod S w w') (d : ¬ S t) (e : ∀ n, n < 25 → ∀ k, (vs n).ownBlock = some k → ¬ S k) : Tb w' t lo fi sy vs :=
  ⟨by obtain ⟨el, hb⟩ := h.blk; exact ⟨el, m.heap hb d⟩, fun n hn => m.owns (h.row n hn) (e n hn), h.ne, h.nt⟩
def tbB (t : Nat) (vs : Nat → Value) (k : Nat) : Prop := k = t ∨ ∃ n, n < 25 ∧ (vs n).ownBlock = some k
def It.tb (t : Nat) (lo : Int) (fi : Nat → Int) (sy : Nat → List Nat) : It where
  P w F := ∃ vs, Tb w t lo fi sy vs ∧ ∀ k, F k ↔ tbB t vs k
  st := fun ⟨vs, h, hF⟩ m d => ⟨vs, h.mod m (d _ ((hF _).2 (.inl rfl))) (fun n hn k hk => d k ((hF k).2 (.inr ⟨n, hn, hk⟩))), hF⟩
  lt := fun ⟨vs, h, hF⟩ k hk => by
    rcases (hF k).1 hk with rfl | ⟨n, hn, e⟩
    · obtain ⟨el, hb⟩ := h.blk; exact heap_lt hb
    · exact ((h.row n hn).lt k e).2
theorem Tb.cell {w : World} {t : Nat} {lo : Int} {fi : Nat → Int} {sy : Nat → List Nat} {vs : Nat → Value} (h : Tb w t lo fi sy vs) {o : Nat} (ho : o < 51) : w.cell? ⟨t, o, none⟩ = some (tbF lo fi vs o) := by
  obtain ⟨el, hb⟩ := h.blk
  rw [cell_blk hb, tbC_get _ _ _ ho]
theorem Tb.set {w w' : World} {t : Nat} {lo lo' : Int} {fi fi' : Nat → Int} {sy : Nat → List Nat} {vs : Nat → Value} {el : TypeId} (h : Tb w t lo fi sy vs) (m : Mod (fun k => k = t) w w') (hb : w'.heap[t]? = some (.cells (tbC lo' fi' vs) el (0, 0))) : Tb w' t lo' fi' sy vs :=
  ⟨⟨el, hb⟩, fun n hn => m.owns (h.row n hn) (fun k hk e => h.nt n hn (by rw [hk, e])), h.ne, h.nt⟩

/-! ### What the table holds -/
def stepT (l : List Int) (st : Int × (Nat → Int) × (Nat → List Nat)) (s : Nat) : Int × (Nat → Int) × (Nat → List Nat) :=
  (gi l s, if st.2.2 (gi l s).toNat = [] then upG st.2.1 (gi l s).toNat (gi (cdW l) s) else st.2.1, upG st.2.2 (gi l s).toNat (st.2.2 (gi l s).toNat ++ [s]))
def tbl (l : List Int) (i : Nat) : Int × (Nat → Int) × (Nat → List Nat) := ((rk l).take i).foldl (stepT l) (0, (fun _ => 0), fun _ => [])
theorem tbl_snoc {l : List Int} {i : Nat} (h : i < (rk l).length) : tbl l (i + 1) = stepT l (tbl l i) (gnn (rk l) i) := by
  unfold tbl
  rw [gnn_take h, List.foldl_append]; rfl
theorem tbl_len (l : List Int) (n : Nat) : ∀ i, i ≤ (rk l).length → ((tbl l i).2.2 n).length ≤ i
  | 0, _ => by simp [tbl]
  | i + 1, h => by
    have ih := tbl_len l n i (by omega)
    have ih2 := tbl_len l (gi l (gnn (rk l) i)).toNat i (by omega)
    rw [tbl_snoc (by omega)]
    show (if n = (gi l (gnn (rk l) i)).toNat then (tbl l i).2.2 (gi l (gnn (rk l) i)).toNat ++ [gnn (rk l) i] else (tbl l i).2.2 n).length ≤ _
    split
    · rw [List.length_append, List.length_singleton]; omega
    · omega

end Go.Proofs.Ytgjnfajdejkkjaa.VG

/-! ## The table is made. -/
namespace Go.Proofs.Ytgjnfajdejkkjaa.VG
open Go
set_option linter.unusedSimpArgs false
set_option linter.unusedVariables false
set_option maxRecDepth 20000

theorem tbF_lo (lo : Int) (fi : Nat → Int) (vs : Nat → Value) : tbF lo fi vs 0 = .int .i64 lo := rfl
theorem tbF_fi (lo : Int) (fi : Nat → Int) (vs : Nat → Value) {n : Nat} (h : n < 25) : tbF lo fi vs (1 + n) = .int .u64 (fi n) := by
  unfold tbF
  rw [if_neg (by omega), if_pos (by omega), show 1 + n - 1 = n by omega]
theorem tbF_vs (lo : Int) (fi : Nat → Int) (vs : Nat → Value) {n : Nat} : tbF lo fi vs (26 + n) = vs n := by
  unfold tbF
  rw [if_neg (by omega), if_neg (by omega), show 26 + n - 26 = n by omega]

theorem ite_j {P : Program} {Q : Exit → Env → World → Prop} {env : Env} {w : World} {c : E} {a b k : S} (J : Env → World → Prop) (t : Bool) (hc : c.ev env w = .bool t) (ha : t = true → a.wp P (thn J Q) env w) (hb : t = false → b.wp P (thn J Q) env w)
    (hk : ∀ env w, J env w → k.wp P Q env w) : (S.ite c a b k).wp P Q env w := by
  cases t with
  | true => rw [wp_ite_t hc]; exact wp_weaken a (thn_imp (fun env' w' h => hk env' w' h) (fun _ _ _ h => h)) (ha rfl)
  | false => rw [wp_ite_f hc]; exact wp_weaken b (thn_imp (fun env' w' h => hk env' w' h) (fun _ _ _ h => h)) (hb rfl)

set_option maxHeartbeats 8000000 in
theorem list_c {G : Nat → Prop} {w : World} {v u : Value} {l : List Int} (hr : Rd G w v l.length (intsV l)) (hu : Rd G w u l.length (wdsV (cdW l))) (hf : fullB l = true) :
    Calls Try.prog 46 [v, u].toArray w (Ret fun r w' => ∃ t, r = .pointer (some ⟨t, 0, none⟩) ∧ Hp w w' [.tb t (tbl l (rk l).length).1 (tbl l (rk l).length).2.1 (tbl l (rk l).length).2.2]) := by
  refine F_sound c46 (by simp [fc46]) ?_
  obtain ⟨hS, hL⟩ := hr.sl
  obtain ⟨uS, uL⟩ := hu.sl
  have hM : maxLen = 9223372036854775807 := rfl
  have hlen := (full_parts hf).1
  simp [fc46, s46]
  refine box_r (.agg (tbC 0 (fun _ => 0) (fun _ => .slice none 0 0))) (by simp; rfl) ?_
  rintro t w1 rfl hb M1 hsz
  refine ⟨trivial, ?_⟩
  have T0 : Tb w1 w.heap.size 0 (fun _ => 0) (fun _ => []) (fun _ => .slice none 0 0) := ⟨⟨_, hb⟩, fun n hn => World.ownsRow_nil _ _ _ _, fun n m _ _ _ k hk => by simp [Value.ownBlock] at hk, fun n _ => by simp [Value.ownBlock]⟩
  have H : Hp w w1 [.tb w.heap.size 0 (fun _ => 0) (fun _ => [])] := (Hp.nil w).add (i := It.tb w.heap.size 0 (fun _ => 0) (fun _ => [])) (F := tbB w.heap.size (fun _ => .slice none 0 0)) M1 ⟨_, T0, fun k => Iff.rfl⟩ (fun k hk => by
    rcases hk with rfl | ⟨n, _, e⟩
    · omega
    · simp [Value.ownBlock] at e)
  generalize w.heap.size = t at *
  simp
  refine call_h (ranked_c (hr.at H.mod) (by omega)) (by simp) ?_
  intro rv w2 HR
  have H2 : Hp w w2 ([.tb t 0 (fun _ => 0) (fun _ => [])] ++ [.own 3 1 rv (rk l).length (natsV (rk l))]) := H.join HR
  clear H HR
  obtain ⟨rS, rL⟩ := (H2.rd 1 rfl).sl
  have hrl := rk_le l
  simp [rS, rL]
  refine for_r (rk l).length (fun i env' w' => env' 0 = v ∧ env' 1 = u ∧ env' 5 = .pointer (some ⟨t, 0, none⟩) ∧ env' 12 = rv ∧ env' 13 = .int .i64 (rk l).length ∧ env' 14 = .int .i64 i ∧
    Hp w w' [.tb t (tbl l i).1 (tbl l i).2.1 (tbl l i).2.2, .own 3 1 rv (rk l).length (natsV (rk l))]) ?_ ?_ ?_
  · exact ⟨by simp, by simp, by simp, by simp, by simp, by simp, H2⟩
  · rintro i env w3 hi ⟨e0, e1, e5, e12, e13, e14, H⟩
    have wi : IntKind.i64.wrap ((i : Int) + 1) = ((i + 1 : Nat) : Int) := by rw [wI (by omega) (by omega)]; omega
    obtain ⟨k1, k2, k3⟩ := rk_lt hi
    have cs := rdN (H.rd 1 rfl) i hi
    have ps := rdN_ptr (H.rd 1 rfl) (by omega)
    have hx := (hr.at H.mod).gi (gnn (rk l) i) k1
    have px := hr.some (by omega)
    have hsn := tbl_snoc hi
    have htl := tbl_len l (gi l (gnn (rk l) i)).toNat i (by omega)
    obtain ⟨F, ⟨vs, T, hF⟩, hF2, up⟩ := H.upd 0 rfl
    have hwd : ∀ w', Mod none' w3 w' → w'.cell? ((slB u).add (gnn (rk l) i)) = some (.int .u64 (gi (cdW l) (gnn (rk l) i))) := fun w' m => rdW (hu.at (H.mod.tr m)) _ (by rw [show (cdW l).length = l.length from cdN_len l _]; exact k1)
    have pu := rdW_ptr hu (by rw [show (cdW l).length = l.length from cdN_len l _]; omega)
    generalize gnn (rk l) i = s at *
    obtain ⟨n, hn⟩ : ∃ n : Nat, gi l s = n := ⟨(gi l s).toNat, by omega⟩
    rw [hn] at k2 k3 hx htl
    rw [Int.toNat_natCast] at htl
    have hn25 : n < 25 := by omega
    unfold stepT at hsn
    rw [hn, Int.toNat_natCast] at hsn
    generalize tbl l i = st at *
    obtain ⟨lo, fi, sy⟩ := st
    simp only at *
    have cv := T.cell (o := 26 + n) (by omega)
    rw [tbF_vs] at cv
    have hrow := T.row n hn25
    obtain ⟨vS, vL⟩ := (Rd.of_owns hrow).sl
    simp [e13, e14]
    refine ite_r (t := true) (by simp [hi]) (fun _ => ?_) (fun h => by cases h)
    simp [wp_blk, e0, e5, e12, e14, rS, rL, ps, cs, hi, hS, hL, px, hx, k1, cv, vS, vL, hn25]
    refine ⟨by omega, ?_⟩
    have fr := H.own 1 rfl
    refine ite_j (fun env' w' => env' 0 = v ∧ env' 1 = u ∧ env' 5 = .pointer (some ⟨t, 0, none⟩) ∧ env' 7 = .int .i64 s ∧ env' 8 = .int .i64 n ∧ env' 12 = rv ∧ env' 13 = .int .i64 (rk l).length ∧ env' 14 = .int .i64 i ∧
      Hp w w' [.tb t lo (if sy n = [] then upG fi n (gi (cdW l) s) else fi) sy, .own 3 1 rv (rk l).length (natsV (rk l))]) (decide (sy n = [])) ?_ ?_ ?_ ?_
    · simp
      rcases sy n with _ | ⟨a, r⟩ <;> simp
      omega
    · intro hnil
      have hnil' : sy n = [] := by simpa using hnil
      have cw := hwd w3.drew (Mod.refl _ _).drew
      simp at cw
      obtain ⟨el, hblk⟩ := (T.mod (Mod.refl (fun _ => False) w3).drew (fun h => h) (fun _ _ _ _ h => h)).blk
      simp [wp_draw, e0, e1, e5, uS, uL, pu, cw, k1, hn25]
      refine ⟨by omega, ?_⟩
      refine st_r (b := t) (o := 1 + n) (v := .int .u64 (gi (cdW l) s)) (by simp [e5]) (by simp) hblk (by rw [tbC_size]; omega) rfl ?_
      intro w4 hb4 M4 _
      rw [tbC_fi _ _ _ _ hn25] at hb4
      refine ⟨trivial, ?_⟩
      have M4' : Mod (fun k => k = t) w3 w4 := (((Mod.refl (fun k => k = t) w3).drew).tr M4)
      have T4 := T.set M4' hb4
      rw [if_pos hnil']
      have H4 := up (.tb t lo (upG fi n (gi (cdW l) s)) sy) w4 F (M4'.mono (fun k _ h => (hF k).2 (.inl h))) ⟨vs, T4, hF⟩ (fun k hk => .inl hk)
      simp
      exact ⟨e0, e1, e5, e12, e13, e14, H4⟩
    · intro hnil
      have hnil' : ¬ sy n = [] := by simpa using hnil
      rw [if_neg hnil']
      simp
      exact ⟨e0, e1, e5, e12, e13, e14, H⟩
    · clear up T hF hF2 F H cv hrow vS vL
      generalize hfi : (if sy n = [] then upG fi n (gi (cdW l) s) else fi) = fi' at *
      rintro env w4 ⟨e0, e1, e5, e7, e8, e12, e13, e14, H⟩
      obtain ⟨F, ⟨vs, T, hF⟩, hF2, up⟩ := H.drew.upd 0 rfl
      have cv := T.cell (o := 26 + n) (by omega)
      rw [tbF_vs] at cv
      have hrow := T.row n hn25
      obtain ⟨vS, vL⟩ := (Rd.of_owns hrow).sl
      simp at cv
      simp [wp_draw, e5, e7, e8, cv, hn25]
      refine ⟨by omega, ?_⟩
      refine app1_r slTI hrow (u := .int .i64 s) rfl (Nat.zero_le _) (by omega) (by omega) (by simp [e7]) (by simp) (by simp) (fun w' M' => by
        simp [promsOk, promOk, e5, e8]
        exact same_one cv (M'.cell cv (fun h => h))) ?_
      intro vb v' w5 w6 M5 o6 M6 hob hne
      refine ⟨trivial, ?_⟩
      have htlt : t < w4.drew.heap.size := by obtain ⟨el, hb⟩ := T.blk; exact heap_lt hb
      have hvlt : ∀ m, m < 25 → ∀ k, (vs m).ownBlock = some k → k < w4.drew.heap.size := fun m hm k hk => ((T.row m hm).lt k hk).2
      have hv't : v'.ownBlock ≠ some t := fun e => by
        rcases hob t e with h | h
        · exact T.nt n hn25 h
        · omega
      have hv'm : ∀ m, m < 25 → m ≠ n → ∀ k, v'.ownBlock = some k → (vs m).ownBlock ≠ some k := fun m hm hmn k hk e => by
        rcases hob k hk with h | h
        · exact T.ne n m hn25 hm (fun h => hmn h.symm) k h e
        · have := hvlt m hm k e; omega
      obtain ⟨el, hblk⟩ := T.blk
      have hb6 := M6.heap hblk (fun h => T.nt n hn25 h)
      simp [e5, e8, hn25]
      refine ⟨by omega, ?_⟩
      refine st_r (b := t) (o := 26 + n) (v := v') (by simp [e5, e8]) (by simp) hb6 (by rw [tbC_size]; omega) (by
        rcases o6.2 with ⟨h, _⟩ | ⟨g, cap, cur, h, _⟩
        · rw [h]; rfl
        · rw [h]; rfl) ?_
      intro w7 hb7 M7 _
      rw [tbC_vs _ _ _ _ hn25] at hb7
      refine ⟨trivial, ?_⟩
      simp [e5, e8]
      refine st_r (b := t) (o := 0) (v := .int .i64 n) (by simp [e5]) (by simp [e8]) hb7 (by rw [tbC_size]; omega) rfl ?_
      intro w8 hb8 M8 _
      rw [tbC_lo] at hb8
      refine ⟨trivial, ?_⟩
      have M78 : Mod (fun k => k = t) w6 w8 := M7.tr M8
      have T8 : Tb w8 t n fi' (upG sy n (sy n ++ [s])) (upG vs n v') := by
        refine ⟨⟨el, hb8⟩, fun m hm => ?_, fun a b ha hb hab k h1 h2 => ?_, fun m hm => ?_⟩
        · unfold upG
          by_cases h : m = n
          · rw [if_pos h, if_pos h, List.length_append, ← natsV_snoc]
            exact M78.owns o6 (fun k hk e => hv't (by rw [hk, e]))
          · rw [if_neg h, if_neg h]
            refine M78.owns (M6.owns (T.row m hm) (fun k hk e => T.ne m n hm hn25 h k hk e)) (fun k hk e => T.nt m hm (by rw [hk, e]))
        · unfold upG at h1 h2
          by_cases h : a = n
          · rw [if_pos h] at h1
            rw [if_neg (by omega)] at h2
            exact hv'm b hb (by omega) k h1 h2
          · rw [if_neg h] at h1
            by_cases h' : b = n
            · rw [if_pos h'] at h2
              exact hv'm a ha h k h2 h1
            · rw [if_neg h'] at h2
              exact T.ne a b ha hb hab k h1 h2
        · unfold upG
          by_cases h : m = n
          · rw [if_pos h]; exact hv't
          · rw [if_neg h]; exact T.nt m hm
      have M68 : Mod F w4.drew w8 := (M6.mono (fun k _ h => (hF k).2 (.inr ⟨n, hn25, h⟩))).trans (M78) (fun k _ h => (hF k).2 (.inl h))
      have H8 := up (.tb t n fi' (upG sy n (sy n ++ [s]))) w8 (tbB t (upG vs n v')) M68 ⟨_, T8, fun k => Iff.rfl⟩ (fun k hk => by
        rcases hk with rfl | ⟨m, hm, e⟩
        · exact .inl ((hF _).2 (.inl rfl))
        · unfold upG at e
          by_cases h : m = n
          · rw [if_pos h] at e
            rcases hob k e with h | h
            · exact .inl ((hF _).2 (.inr ⟨n, hn25, h⟩))
            · exact .inr h
          · rw [if_neg h] at e
            exact .inl ((hF _).2 (.inr ⟨m, hm, e⟩)))
      simp [e14, wi]
      rw [hsn]
      exact ⟨e0, e1, e5, e12, e13, H8⟩
  · rintro env w3 ⟨e0, e1, e5, e12, e13, e14, H⟩
    simp [e13, e14]
    refine ite_r (t := false) (by simp) (fun h => by cases h) (fun _ => ?_)
    simp [e5]
    exact H.drop 1

end Go.Proofs.Ytgjnfajdejkkjaa.VG

/-! ## One symbol is read by the table. -/
namespace Go.Proofs.Ytgjnfajdejkkjaa.VG
open Go
set_option linter.unusedSimpArgs false
set_option linter.unusedVariables false
set_option maxRecDepth 20000

/-- What the table tells of a word of n bits. -/
def lookT (fi : Nat → Int) (sy : Nat → List Nat) (n v : Nat) : Option Nat := if (v : Int) < fi n then none else (sy n)[v - (fi n).toNat]?
/-- A symbol, bit by bit: f lengths are left. -/
def decT (fi : Nat → Int) (sy : Nat → List Nat) (bs : List Nat) : Nat → Nat → Nat → Nat → (Int × Int) × Nat × Int
  | 0, _, _, p => ((0, 2), p, 0)
  | f + 1, n, v, p =>
    if (rGet bs p 0 1).2.2 ≠ 0 then ((0, (rGet bs p 0 1).2.2), (rGet bs p 0 1).2.1, (rGet bs p 0 1).2.2)
    else match lookT fi sy n (2 * v + (rGet bs p 0 1).1) with
      | some s => ((s, 0), (rGet bs p 0 1).2.1, 0)
      | none => decT fi sy bs f (n + 1) (2 * v + (rGet bs p 0 1).1) (rGet bs p 0 1).2.1

set_option maxHeartbeats 8000000 in
theorem read_h {W w : World} {rest : List It} {b t : Nat} {bs : List Nat} {p : Nat} {lo : Nat} {fi : Nat → Int} {sy : Nat → List Nat} (H : Hp W w (.rr b bs p 0 :: .tb t lo fi sy :: rest)) (hlo : lo ≤ 24) (hfi : ∀ n, 0 ≤ fi n ∧ fi n ≤ 16777216)
    (hsl : ∀ n, (sy n).length ≤ 100000) :
    Calls Try.prog 47 [.pointer (some ⟨t, 0, none⟩), .pointer (some ⟨b, 0, none⟩)].toArray w (Ret fun r w' => r = .tuple #[.int .i64 (decT fi sy bs lo 1 0 p).1.1, .int .i64 (decT fi sy bs lo 1 0 p).1.2] ∧
      Hp W w' (.rr b bs (decT fi sy bs lo 1 0 p).2.1 (decT fi sy bs lo 1 0 p).2.2 :: .tb t lo fi sy :: rest)) := by
  refine F_sound c47 (by simp [fc47]) ?_
  simp [fc47, s47]
  generalize hD : decT fi sy bs lo 1 0 p = D
  refine for_r lo (fun k env' w' => env' 0 = .pointer (some ⟨t, 0, none⟩) ∧ env' 1 = .pointer (some ⟨b, 0, none⟩) ∧ env' 7 = .int .i64 (k + 1 : Nat) ∧ ∃ v q, env' 6 = .int .u64 (v : Nat) ∧ v < 2 ^ k ∧ decT fi sy bs (lo - k) (k + 1) v q = D ∧
    Hp W w' (.rr b bs q 0 :: .tb t lo fi sy :: rest)) ?_ ?_ ?_
  · exact ⟨by simp, by simp, by simp, 0, p, by simp, by simp, by simpa using hD, H⟩
  · rintro k env w1 hk ⟨e0, e1, e7, v, q, e6, hv, hd, H⟩
    have wk : IntKind.i64.wrap (((k + 1 : Nat) : Int) + 1) = ((k + 1 + 1 : Nat) : Int) := by rw [wI (by omega) (by omega)]; omega
    have hpow : 2 ^ k ≤ 2 ^ 24 := Nat.pow_le_pow_right (by omega) (by omega)
    obtain ⟨f, hf⟩ : ∃ f, lo - k = f + 1 := ⟨lo - k - 1, by omega⟩
    rw [hf] at hd
    unfold decT at hd
    obtain ⟨F, ⟨vs, T, hF⟩, _⟩ := H.upd 1 rfl
    have c0 := T.cell (o := 0) (by omega)
    rw [tbF_lo] at c0
    simp [e0, c0, e7, -Int.natCast_add]
    refine ite_r (t := true) (by simp; omega) (fun _ => ?_) (fun h => by cases h)
    simp [wp_blk, e6, -Int.natCast_add]
    obtain ⟨FW, hW, hFW, upW⟩ := H.rr 0 rfl
    refine call_h (get_c hW 1) (by simp (disch := omega) [wI, wU, tmod_nn, tdiv_nn, env0_0, env0_1, env0_2, env0_3, env0_4, env0_5, -env0_apply, e1]) ?_
    rintro r wW ⟨rfl, AW⟩
    replace H := upW _ _ _ AW
    have hg2 := rGet_lt bs q 0 1
    generalize hG : rGet bs q 0 1 = g at *
    obtain ⟨g, q', er⟩ := g
    try simp only at hd hg2 H
    obtain ⟨x, rfl⟩ : ∃ x : Bool, g = x.toNat := by
      have hg3 : g < 2 := hg2
      obtain rfl | rfl : g = 0 ∨ g = 1 := by omega
      · exact ⟨false, rfl⟩
      · exact ⟨true, rfl⟩
    have hpb := push_bit' v x (by omega)
    replace H : Hp W wW (.rr b bs q' er :: .tb t lo fi sy :: rest) := H
    obtain ⟨FR, hR, _⟩ := H.rr 0 rfl
    have hx1 : x.toNat ≤ 1 := by cases x <;> simp
    simp [e6, hpb, -Int.natCast_add]
    refine callp (err_c hR) (by simp [e1]) ?_
    by_cases her : er = 0
    · subst her
      simp only [ne_eq, not_true_eq_false, if_false] at hd
      obtain ⟨F, ⟨vs, T, hF⟩, _⟩ := H.upd 1 rfl
      have cf := T.cell (o := 1 + (k + 1)) (by omega)
      have cv := T.cell (o := 26 + (k + 1)) (by omega)
      rw [tbF_fi _ _ _ (by omega)] at cf
      rw [tbF_vs] at cv
      have hrow := T.row (k + 1) (by omega)
      have hrd := Rd.of_owns hrow
      obtain ⟨vS, vL⟩ := hrd.sl
      obtain ⟨f0, f1⟩ := hfi (k + 1)
      obtain ⟨fn, hfn⟩ : ∃ fn : Nat, fi (k + 1) = fn := ⟨(fi (k + 1)).toNat, by omega⟩
      have hsl' := hsl (k + 1)
      have hv' : 2 * v + x.toNat < 2 ^ (k + 1) := by rw [Nat.pow_succ]; omega
      generalize hu : 2 * v + x.toNat = u at *
      generalize hn : k + 1 = n at *
      rw [hfn] at cf
      simp
      refine ite_r (t := false) (by simp) (fun h => by cases h) (fun _ => ?_)
      simp [e0, e7, cf, show n < 25 by omega, -Int.natCast_add]
      refine ⟨by omega, ?_⟩
      by_cases hlt : u < fn
      · have hlk : lookT fi sy n u = none := by unfold lookT; rw [hfn, if_pos (by omega)]
        rw [hlk] at hd
        refine ite_r (t := true) (by simp [hlt]) (fun _ => ?_) (fun h => by cases h)
        simp [e7, wk, -Int.natCast_add]
        refine ⟨by simp [e0], by simp [e1], by simp, u, rfl, hv', q', by rw [show lo - n = f by omega]; exact hd, H⟩
      · have hsub : IntKind.u64.wrap ((u : Int) - fn) = ((u - fn : Nat) : Int) := by rw [wU (by omega) (by omega)]; omega
        have hcl : IntKind.u64.wrap ((sy n).length : Int) = ((sy n).length : Int) := wU (by omega) (by omega)
        have hlk : lookT fi sy n u = (sy n)[u - fn]? := by unfold lookT; rw [hfn, if_neg (by omega), Int.toNat_natCast]
        rw [hlk] at hd
        refine ite_r (t := false) (by simp; omega) (fun h => by cases h) (fun _ => ?_)
        simp [e0, e7, cf, cv, hsub, vS, vL, hcl, show n < 25 by omega, -Int.natCast_add]
        refine ⟨by omega, ?_⟩
        by_cases hix : u - fn < (sy n).length
        · have cell := rdN hrd (u - fn) hix
          have pp := rdN_ptr hrd (by omega)
          rw [gnn_lt hix] at hd
          refine ite_r (t := true) (by simp; omega) (fun _ => ?_) (fun h => by cases h)
          simp [e0, e7, cv, vS, vL, cell, pp, hix, show n < 25 by omega, -Int.natCast_add]
          refine ⟨by omega, ?_⟩
          subst hd
          exact ⟨⟨rfl, rfl⟩, H⟩
        · rw [List.getElem?_eq_none (by omega)] at hd
          refine ite_r (t := false) (by simp; omega) (fun h => by cases h) (fun _ => ?_)
          simp [e7, wk, -Int.natCast_add]
          refine ⟨by simp [e0], by simp [e1], by simp, u, rfl, hv', q', by rw [show lo - n = f by omega]; exact hd, H⟩
    · simp only [ne_eq, her, not_false_eq_true, if_true] at hd
      simp [her]
      refine ite_r (t := true) (by simp [her]) (fun _ => ?_) (fun h => by cases h)
      refine callp (err_c hR) (by simp [e1]) ?_
      simp
      subst hd
      exact ⟨⟨rfl, rfl⟩, H⟩
  · rintro env w1 ⟨e0, e1, e7, v, q, e6, hv, hd, H⟩
    obtain ⟨F, ⟨vs, T, hF⟩, _⟩ := H.upd 1 rfl
    have c0 := T.cell (o := 0) (by omega)
    rw [tbF_lo] at c0
    rw [Nat.sub_self] at hd
    unfold decT at hd
    subst hd
    simp [e0, c0, e7]
    refine ite_r (t := false) (by simp; omega) (fun h => by cases h) (fun _ => ?_)
    simp
    exact H

end Go.Proofs.Ytgjnfajdejkkjaa.VG
