/-
  Lengths, where there are two symbols or more and few: what it computes, number by number.
-/
import Derived.Test.YtgjnfajdejkkjaaQe
import Derived.Test.YtgjnfajdejkkjaaKe
namespace Go.Proofs.Ytgjnfajdejkkjaa.VG
open Go
set_option linter.unusedSimpArgs false
set_option linter.unusedVariables false
set_option maxRecDepth 20000

/-- The coins of the first i counts. -/
def cnP (freq : List Int) (i : Nat) : List (Int × Int × Option (Nat × Nat)) := (List.range i).flatMap fun k => if 0 < gi freq k then [(gi freq k, (k : Int), none)] else []
def wP (P : List (Int × Int × Option (Nat × Nat))) (i : Nat) : Int := (plG P i).1
def ltP (P : List (Int × Int × Option (Nat × Nat))) (i j : Nat) : Bool := decide (wP P i < wP P j)
/-- One round: the packages, the new row. -/
def rndP (c : List Nat) (s : List (Int × Int × Option (Nat × Nat)) × List Nat) : List (Int × Int × Option (Nat × Nat)) × List Nat :=
  (s.1 ++ pkL (wP s.1) s.2, srt (ltP (s.1 ++ pkL (wP s.1) s.2)) (nxtR s.1.length c (s.2.length / 2)))
def itrP (c : List Nat) (s : List (Int × Int × Option (Nat × Nat)) × List Nat) : Nat → List (Int × Int × Option (Nat × Nat)) × List Nat
  | 0 => s
  | k + 1 => rndP c (itrP c s k)
/-- The coins by weight. -/
def cnR (freq : List Int) : List Nat := srt (ltP (cnP freq freq.length)) (List.range (cnP freq freq.length).length)
def rowP (freq : List Int) (k : Nat) : List (Int × Int × Option (Nat × Nat)) × List Nat := itrP (cnR freq) (cnP freq freq.length, cnR freq) k
def lenP (freq : List Int) (m : Nat) : List Int :=
  addS (List.replicate freq.length 0) (((rowP freq (m - 1)).2.take (2 * (cnP freq freq.length).length - 2)).flatMap (symsF (rowP freq (m - 1)).1.length (rowP freq (m - 1)).1))

theorem wS_pl (S : List Nd) : wS S = wP (S.map plN) := by
  funext i
  unfold wP wS
  rw [plG_nd]; rfl
theorem ltW_pl (S : List Nd) : ltW S = ltP (S.map plN) := by
  funext i j
  show decide (wS S i < wS S j) = _
  rw [wS_pl]; rfl
theorem pkL_length (f : Nat → Int) (r : List Nat) : (pkL f r).length = r.length / 2 := by simp [pkL]
theorem insV_mem (lt : Nat → Nat → Bool) (x y : Nat) : ∀ l : List Nat, y ∈ insV lt x l ↔ y = x ∨ y ∈ l
  | [] => by simp [insV]
  | z :: t => by
    unfold insV
    split
    · simp only [List.mem_cons, insV_mem lt x y t]
      constructor
      · rintro (h | h | h) <;> simp [h]
      · rintro (h | h | h) <;> simp [h]
    · simp
theorem srt_mem (lt : Nat → Nat → Bool) (l : List Nat) (y : Nat) : y ∈ srt lt l ↔ y ∈ l := by
  unfold srt
  suffices h : ∀ (r a : List Nat), (y ∈ r.foldl (fun a x => insL lt x a) a) ↔ y ∈ a ∨ y ∈ r by simpa using h l []
  intro r
  induction r with
  | nil => intro a; simp
  | cons x r ih =>
    intro a
    rw [List.foldl_cons, ih]
    simp only [insL, List.mem_reverse, insV_mem, List.mem_cons]
    constructor
    · rintro ((h | h) | h) <;> simp [h]
    · rintro (h | h | h) <;> simp [h]

theorem cnP_le (freq : List Int) : ∀ i, (cnP freq i).length ≤ i
  | 0 => by simp [cnP]
  | i + 1 => by
    have ih := cnP_le freq i
    have hcn : cnP freq (i + 1) = cnP freq i ++ (if 0 < gi freq i then [(gi freq i, (i : Int), none)] else []) := by unfold cnP; rw [List.range_succ, List.flatMap_append]; simp
    rw [hcn, List.length_append]
    split <;> simp <;> omega
def CInv (w : World) (u : Value) (mv : Value) (freq : List Int) (i : Nat) (env' : Env) (w' : World) : Prop :=
  env' 0 = u ∧ env' 1 = mv ∧ env' 29 = u ∧ env' 30 = .int .i64 freq.length ∧ env' 31 = .int .i64 i ∧ ∃ S : List Nd, S.map plN = cnP freq i ∧ Wf S ∧ (∀ n ∈ S, 0 ≤ n.sy ∧ n.sy < freq.length) ∧
    ∃ v', env' 6 = v' ∧ Hp w w' [.own 61 1 v' S.length ((List.range S.length).map (ndP S)), .nd S S]

/-- Rounds: the coins by weight, the lengths still 0, the nodes; the row. -/
def RInv (w : World) (u mv vc vl : Value) (freq : List Int) (m k : Nat) (env' : Env) (w' : World) : Prop :=
  env' 0 = u ∧ env' 1 = mv ∧ env' 6 = vc ∧ env' 9 = vl ∧ env' 79 = .int .i64 (m - 1 : Nat) ∧ env' 80 = .int .i64 k ∧ ∃ S : List Nd, S.map plN = (rowP freq k).1 ∧ Wf S ∧ (∀ n ∈ S, 0 ≤ n.sy ∧ n.sy < freq.length) ∧
    (∀ i ∈ (rowP freq k).2, i < S.length) ∧ (∀ i ∈ cnR freq, i < S.length) ∧ S ≠ [] ∧ Rc (fun k => vl.ownBlock ≠ some k) w' (env' 10) (rowP freq k).2.length ((rowP freq k).2.map (ndP S)) ∧
    Hp w w' [.own 61 1 vc (cnR freq).length ((cnR freq).map (ndP S)), .own 3 1 vl freq.length (intsV (List.replicate freq.length 0)), .nd S S]
theorem cnR_length (freq : List Int) : (cnR freq).length = (cnP freq freq.length).length := by unfold cnR; rw [srt_length, List.length_range]

set_option maxHeartbeats 4000000 in
theorem round_c {w : World} {u mv vc vl : Value} {freq : List Int} {m k : Nat} {env : Env} {w1 : World} {Q : Exit → Env → World → Prop} {kk : S} (h : RInv w u mv vc vl freq m k env w1) (h1 : 1 ≤ freq.length) (hn0 : 2 ≤ (cnR freq).length) (hn : (cnR freq).length ≤ 1000)
    (hw : ∀ i, 0 ≤ wP (rowP freq k).1 i ∧ wP (rowP freq k).1 i ≤ 4611686018427387903) (hl : (rowP freq k).2.length < 2 * (cnR freq).length)
    (hk : ∀ x w2, (∀ env' : Env, env' 0 = u → env' 1 = mv → env' 6 = vc → env' 9 = vl → env' 79 = .int .i64 (m - 1 : Nat) → env' 80 = .int .i64 (k + 1 : Nat) → env' 10 = x → RInv w u mv vc vl freq m (k + 1) env' w2) → kk.wp Try.prog Q (upd env 84 x) w2) : (S.call (some 84) 35 [.vr 6, .vr 10] [] kk).wp Try.prog Q env w1 := by
  obtain ⟨e0, e1, e6, e9, e79, e80, S, hp, hWf, hsy, hrv, hcv, hS0, hR, H⟩ := h
  have hLw : Lies w1 S S := by
    obtain ⟨F, ⟨h1, _⟩, _⟩ := H.upd 2 rfl
    exact h1
  have hSl : S.length = (rowP freq k).1.length := by rw [← hp, List.length_map]
  refine call_h (next_c (S := S) (c := cnR freq) (r := (rowP freq k).2) hS0 hWf hLw (H.rd 0 rfl) hR.rd hcv hrv (by intro h; rw [h] at hn0; simp at hn0) (by omega) (by omega) (by rw [wS_pl, hp]; exact hw)) (by simp [e6]) ?_
  rintro x w2 ⟨T, hT, hTp, hWT, Hk⟩
  have hTs : ∀ n ∈ T, n.sy = 0 := by
    intro n hn
    have : plN n ∈ pkL (wS S) (rowP freq k).2 := by rw [← hTp]; exact List.mem_map_of_mem hn
    unfold pkL at this
    rw [List.mem_map] at this
    obtain ⟨j, _, e⟩ := this
    have := congrArg (fun t => t.2.1) e
    simpa [plN, pk1] using this.symm
  have hnx : (rowP freq (k + 1)) = ((rowP freq k).1 ++ pkL (wP (rowP freq k).1) (rowP freq k).2, srt (ltP ((rowP freq k).1 ++ pkL (wP (rowP freq k).1) (rowP freq k).2)) (nxtR (rowP freq k).1.length (cnR freq) ((rowP freq k).2.length / 2))) := rfl
  have hpl : (S ++ T).map plN = (rowP freq (k + 1)).1 := by rw [hnx, List.map_append, hp, hTp, wS_pl, hp]
  have hrow : srt (ltW (S ++ T)) (nxtR S.length (cnR freq) ((rowP freq k).2.length / 2)) = (rowP freq (k + 1)).2 := by rw [ltW_pl, hpl, hSl]; rfl
  have hlen : (cnR freq).length + (rowP freq k).2.length / 2 = (rowP freq (k + 1)).2.length := by rw [hnx, srt_length]; simp [nxtR]
  rw [hrow, hlen] at Hk
  refine hk x w2 fun env' a0 a1 a6 a9 a79 a80 a10 => ⟨a0, a1, a6, a9, a79, a80, S ++ T, hpl, hWT, ?_, ?_, ?_, by simp [hS0], ?_, ?_⟩
  · intro n hn
    rcases List.mem_append.1 hn with hn | hn
    · exact hsy n hn
    · rw [hTs n hn]; omega
  · intro i hi
    rw [← hrow, srt_mem] at hi
    have := nxtR_bd hcv i hi
    simp only [List.length_append, hT]; omega
  · intro i hi
    have := hcv i hi
    simp only [List.length_append]; omega
  · have hc := Hk.rc 0 rfl
    have hv := H.own 1 rfl
    rw [a10]
    exact ⟨hc.rd.mono (fun k hk e => by have := (hv.lt k e).2; omega), hc.cap, hc.len⟩
  · have J := (H.join Hk).drop 3
    have J1 : Hp w w2 ([.own 61 1 vc (cnR freq).length ((cnR freq).map (ndP S)), .own 3 1 vl freq.length (intsV (List.replicate freq.length 0))] ++ [.nd S S, .nd (S ++ T) T]) := J
    have J2 := Hp.fuse _ (.nd (S ++ T) (S ++ T)) J1 (fun F1 F2 h1 h2 => nd_join h1 h2 (fun hl => hl.more (fun m hm => hWf.bound m hm)))
    rw [← map_app (T := T) hcv] at J2
    exact J2

set_option maxHeartbeats 4000000 in
theorem lengths_main {G : Nat → Prop} {w : World} {u : Value} {freq : List Int} (m : Nat) (hr : Rd G w u freq.length (intsV freq)) (h1 : 1 ≤ freq.length) (h2 : freq.length ≤ 1024) (m1 : 1 ≤ m) (m2 : m ≤ 24)
    (hf : ∀ x ∈ freq, 0 ≤ x ∧ x ≤ 1099511627776) (n2 : 2 ≤ (cnP freq freq.length).length) (n10 : (cnP freq freq.length).length ≤ 1000) (nm : (cnP freq freq.length).length ≤ 2 ^ m)
    (hw : ∀ k, k < m → ∀ i, 0 ≤ wP (rowP freq k).1 i ∧ wP (rowP freq k).1 i ≤ 4611686018427387903) (hl : ∀ k, k < m → (rowP freq k).2.length < 2 * (cnP freq freq.length).length) (hb : 2 * (cnP freq freq.length).length - 2 ≤ (rowP freq (m - 1)).2.length) :
    Calls Try.prog 12 [u, .int .i64 m].toArray w (Ret fun x w' => ∃ v, x = .tuple #[v, .int .i64 0] ∧ Hp w w' [.own 3 1 v freq.length (intsV (lenP freq m))]) := by
  refine F_sound c12 (by simp [fc12]) ?_
  obtain ⟨hS, hSL⟩ := hr.sl
  have hM : maxLen = 9223372036854775807 := rfl
  simp [fc12, s12, hS, hSL]
  refine ite_r (t := false) (by simp; omega) (fun h => by cases h) (fun _ => ?_)
  simp [hS, hSL]
  have H : Hp w w [.own 61 1 (.slice none 0 0) 0 [], .nd [] []] :=
    ((Hp.nil w).nilS (e := 61) (size := 1)).add (i := It.nd [] []) (F := fun _ => False) (Mod.refl _ _) ⟨(fun n hn => by cases hn), fun k => ⟨fun h => h.elim, fun ⟨n, hn, _⟩ => by cases hn⟩⟩ (fun k hk => hk.elim)
  refine for_r freq.length (CInv w u (.int .i64 m) freq) ?_ ?_ ?_
  · exact ⟨by simp, by simp, by simp, by simp, by simp, [], rfl, (fun k n h => by simp at h), (fun n h => by cases h), _, by simp, H⟩
  · rintro i env w1 hi ⟨e0, e1, e29, e30, e31, S, hp, hWf, hsy, ve, e6, H⟩
    have wi : IntKind.i64.wrap ((i : Int) + 1) = ((i + 1 : Nat) : Int) := by rw [wI (by omega) (by omega)]; omega
    have cf := (hr.at H.mod).gi i hi
    have pf := hr.some (by omega)
    obtain ⟨f0, f1⟩ := hf _ (gi_mem freq i hi)
    have hcn : cnP freq (i + 1) = cnP freq i ++ (if 0 < gi freq i then [(gi freq i, (i : Int), none)] else []) := by unfold cnP; rw [List.range_succ, List.flatMap_append]; simp
    simp [e30, e31]
    refine ite_r (t := true) (by simp [hi]) (fun _ => ?_) (fun h => by cases h)
    simp [wp_blk, e0, e1, e29, e31, hS, hSL, pf, cf, hi]
    refine ite_r (t := false) (by simp; omega) (fun h => by cases h) (fun _ => ?_)
    by_cases hpos : 0 < gi freq i
    · simp
      refine ite_r (t := true) (by simp [hpos]) (fun _ => ?_) (fun h => by cases h)
      simp [putAt, Value.cells]
      have hSl : S.length ≤ i := by
        have := cnP_le freq i
        rw [← hp, List.length_map] at this
        exact this
      refine box_h (.agg #[.int .i64 (gi freq i), .int .i64 i, .slice none 0 0]) H (by simp [putAt, Value.cells]) ?_
      intro b w4 H M4
      refine ⟨.inl rfl, ?_⟩
      simp
      refine app1_h slTE 0 H rfl (u := .pointer (some ⟨b, 0, none⟩)) rfl (by omega) (by omega) (by simp) (by simp [e6]) (by simp) (fun _ _ => trivial) ?_
      intro vb v' w5 w6 H
      refine ⟨.inl rfl, ?_⟩
      simp [e31, wi]
      let n : Nd := ⟨b, gi freq i, i, none⟩
      have H1 : Hp w w6 ([.own 61 1 v' (S.length + 1) ((List.range S.length).map (ndP S) ++ [.pointer (some ⟨b, 0, none⟩)])] ++ [.nd S S, .blk b (ndC n)]) := H
      have H2 := Hp.fuse _ (.nd (S ++ [n]) (S ++ [n])) H1 (fun F1 F2 h1 h2 => nd_join h1 (nd_coin h2) (fun hl => hl.more (fun m hm => hWf.bound m hm)))
      have e1' : (List.range S.length).map (ndP S) ++ [Value.pointer (some ⟨b, 0, none⟩)] = (List.range (S ++ [n]).length).map (ndP (S ++ [n])) := by
        rw [List.length_append, List.length_singleton, List.range_succ, List.map_append, map_app (S := S) (T := [n]) (fun i hi => List.mem_range.1 hi), List.map_singleton]
        unfold ndP
        rw [ndG_new]
      rw [e1'] at H2
      rw [if_pos hpos] at hcn
      refine ⟨by simp [e0], by simp [e1], by simp [e29], by simp [e30], by simp, S ++ [n], by rw [hcn, List.map_append, hp]; rfl, hWf.snoc n (fun p a b h => by cases h), ?_, v', by simp, by simpa using H2⟩
      intro x hx
      rcases List.mem_append.1 hx with hx | hx
      · exact hsy x hx
      · simp only [List.mem_singleton] at hx
        subst hx
        exact ⟨by simp [n], by simp only [n]; omega⟩
    · simp
      refine ite_r (t := false) (by simp; omega) (fun h => by cases h) (fun _ => ?_)
      simp [e31, wi]
      rw [if_neg hpos, List.append_nil] at hcn
      exact ⟨by simp [e0], by simp [e1], by simp [e29], by simp [e30], by simp, S, by rw [hcn]; exact hp, hWf, hsy, ve, by simp [e6], H⟩
  · rintro env w1 ⟨e0, e1, e29, e30, e31, S, hp, hWf, hsy, vc, e6, H⟩
    simp [e30, e31]
    refine ite_r (t := false) (by simp) (fun h => by cases h) (fun _ => ?_)
    simp
    have hSn : S.length = (cnP freq freq.length).length := by rw [← hp, List.length_map]
    have hS0 : S ≠ [] := by intro h; rw [h] at hSn; simp at hSn; omega
    obtain ⟨cS, cL⟩ := (H.rd 0 rfl).sl
    generalize hn : (cnP freq freq.length).length = n at *
    simp [e6, cS, cL]
    refine ite_r (t := false) (by simp; omega) (fun h => by cases h) (fun _ => ?_)
    have hsh : shl .i64 1 m = ((2 ^ m : Nat) : Int) := by
      have := shl_p2 (d := m) (by omega) (by omega)
      rw [this]; simp [p2]
    simp [e1, e6, cS, cL, hsh, -Int.natCast_pow]
    refine ite_r (t := false) (by simp [-Int.natCast_pow]; omega) (fun h => by cases h) (fun _ => ?_)
    simp [e0, hS, hSL]
    refine mkN_h slTI (kl := .i64) (kc := .i64) (n := freq.length) (xs := intsV (List.replicate freq.length 0)) H (by simp [e0, hS, hSL]) (by simp [e0, hS, hSL]) (by omega) (by omega) (fun z hz => by rw [zero64 hz, intsV_zeros]) ?_
    intro vl w2 H M2
    refine ⟨.inl rfl, ?_⟩
    simp [e6, cS, cL]
    refine ite_r (t := false) (by simp; omega) (fun h => by cases h) (fun _ => ?_)
    simp [e6]
    obtain ⟨F1, F2, p1, p2, hF, hd⟩ := H.apart
    have hcR : srt (ltW S) (List.range S.length) = cnR freq := by unfold cnR; rw [ltW_pl, hp, hSn, hn]
    have hcl : (cnR freq).length = n := by rw [cnR_length, hn]
    have own : w2.ownsRow 0 61 1 vc (List.range S.length).length ((List.range S.length).map (ndP S)) := by rw [List.length_range]; exact p1.1
    refine call_h (order_c (S := S) (r := List.range S.length) (by simpa using hS0) own (by rw [List.length_range]; omega) fun i => ?_) (by simp [e6]) ?_
    · have hm := ndG_mem hS0 i
      refine ⟨(p2.1.cells hm).1, p2.1.lt _ ⟨_, hm, .inl rfl⟩, fun e => ?_⟩
      exact hd _ (by rw [p1.2]; exact e) ((p2.2 _).2 ⟨_, hm, .inl rfl⟩)
    rintro x w3 ⟨rfl, ho, M⟩
    rw [hcR, List.length_range, hSn, ← hcl] at ho
    have H' : Hp w w3 [.own 61 1 vc (cnR freq).length ((cnR freq).map (ndP S)), .nd S S, .own 3 1 vl freq.length (intsV (List.replicate freq.length 0))] := by
      obtain ⟨F, ⟨_, rfl⟩, _, up⟩ := H.upd 0 rfl
      exact up (.own 61 1 vc (cnR freq).length ((cnR freq).map (ndP S))) w3 _ M ⟨ho, rfl⟩ (fun k hk => .inl hk)
    replace H := H'.perm (l' := [.own 61 1 vc (cnR freq).length ((cnR freq).map (ndP S)), .own 3 1 vl freq.length (intsV (List.replicate freq.length 0)), .nd S S]) (List.Perm.cons _ (List.Perm.swap _ _ _))
    have wm : IntKind.i64.wrap ((m : Int) - 1) = ((m - 1 : Nat) : Int) := by rw [wI (by omega) (by omega)]; omega
    simp [e1, e6, wm]
    refine for_r (m - 1) (RInv w u (.int .i64 m) vc vl freq m) ?_ ?_ ?_
    · refine ⟨by simp [e0], by simp [e1], by simp [e6], by simp, by simp, by simp, S, hp, hWf, hsy, ?_, ?_, hS0, ?_, H⟩
      · intro i hi
        have : i ∈ cnR freq := hi
        rw [← hcR, srt_mem, List.mem_range] at this
        exact this
      · intro i hi
        rw [← hcR, srt_mem, List.mem_range] at hi
        exact hi
      · obtain ⟨F1, F2, q1, q2, _, hd'⟩ := H.apart
        have hc := H.rc 0 rfl
        simp
        exact ⟨(Rd.of_owns q1.1).mono (fun k hk e => hd' k (by rw [q1.2]; exact hk.1) (by rw [q2.2]; exact e)), hc.cap, hc.len⟩
    · rintro k env w4 hk hI
      have hI' := hI
      obtain ⟨e0, e1, e6, e9, e79, e80, _⟩ := hI'
      have wk : IntKind.i64.wrap ((k : Int) + 1) = ((k + 1 : Nat) : Int) := by rw [wI (by omega) (by omega)]; omega
      simp [e79, e80]
      refine ite_r (t := true) (by simp; omega) (fun _ => ?_) (fun h => by cases h)
      simp [wp_blk]
      have hI2 : RInv w u (.int .i64 m) vc vl freq m k (upd env 81 (.bool true)) w4 := by
        obtain ⟨e0, e1, e6, e9, e79, e80, S, q⟩ := hI
        exact ⟨by simp [e0], by simp [e1], by simp [e6], by simp [e9], by simp [e79], by simp [e80], S, q⟩
      refine round_c hI2 h1 (by omega) (by omega) (hw k (by omega)) (by rw [hcl]; exact hl k (by omega)) ?_
      intro x w5 hx
      simp [e0, e1, e6, e9, e79, e80, wk]
      exact hx _ (by simp [e0]) (by simp [e1]) (by simp [e6]) (by simp [e9]) (by simp [e79]) (by simp) (by simp)
    · rintro env w4 ⟨e0, e1, e6, e9, e79, e80, S, hp, hWf, hsy, hrv, hcv, hS0, hR, H⟩
      simp [e79, e80]
      refine ite_r (t := false) (by simp) (fun h => by cases h) (fun _ => ?_)
      simp
      obtain ⟨rS, rL, rC⟩ := hR.sl
      have hrc := hR.cut 0 (2 * n - 2) (by omega) (by omega)
      obtain ⟨cS', cL'⟩ := (H.rd 0 rfl).sl
      have w2n : IntKind.i64.wrap (2 * (n : Int)) = ((2 * n : Nat) : Int) := by rw [wI (by omega) (by omega)]; omega
      have w2m : IntKind.i64.wrap (((2 * n : Nat) : Int) - 2) = ((2 * n - 2 : Nat) : Int) := by rw [wI (by omega) (by omega)]; omega
      rw [hcl] at cL'
      generalize hq : 2 * n - 2 = q at *
      rw [List.drop_zero, ← List.map_take] at hrc
      generalize hsv : slVal 1 (env 10) 0 q = sv at *
      obtain ⟨sS, sL, _⟩ := hrc.sl
      simp [e6, cS', cL', w2n, w2m, hsv, sS, sL, rS, -Int.natCast_mul]
      refine ⟨by omega, ?_⟩
      generalize hro : (rowP freq (m - 1)).2.take q = ro at *
      have hrol : ro.length = q := by rw [← hro, List.length_take]; omega
      have hrd : Rd (fun k => vl.ownBlock ≠ some k) w4 sv ro.length (ro.map (ndP S)) := by rw [hrol]; exact hrc.rd
      refine for_r q (fun k env' w' => env' 9 = vl ∧ env' 91 = sv ∧ env' 92 = .int .i64 q ∧ env' 93 = .int .i64 k ∧ Rd (fun k => vl.ownBlock ≠ some k) w' sv ro.length (ro.map (ndP S)) ∧
        Hp w w' [.own 61 1 vc (cnR freq).length ((cnR freq).map (ndP S)), .own 3 1 vl freq.length (intsV (addS (List.replicate freq.length 0) ((ro.take k).flatMap (symsF S.length (S.map plN))))), .nd S S]) ?_ ?_ ?_
      · exact ⟨by simp [e9], by simp, by simp, by simp, hrd, by simpa [addS] using H⟩
      · rintro k env w5 hk ⟨e9, e91, e92, e93, hrd, H⟩
        have wk : IntKind.i64.wrap ((k : Int) + 1) = ((k + 1 : Nat) : Int) := by rw [wI (by omega) (by omega)]; omega
        have cell := rd_nd hrd k (by omega)
        have pv := (hrd.ptr (by rw [List.length_map]; omega)).1
        have hgk : gn ro k ∈ (rowP freq (m - 1)).2 := by
          have h1 := gn_mem (r := ro) (i := k) (by omega)
          have h2 : gn ro k ∈ (rowP freq (m - 1)).2.take q := by rw [hro]; exact h1
          exact List.mem_of_mem_take h2
        have H0 := H.perm (l' := [.own 3 1 vl freq.length (intsV (addS (List.replicate freq.length 0) ((ro.take k).flatMap (symsF S.length (S.map plN))))), .nd S S, .own 61 1 vc (cnR freq).length ((cnR freq).map (ndP S))])
          ((List.Perm.swap _ _ _).trans (List.Perm.cons _ (List.Perm.swap _ _ _)))
        obtain ⟨F1, F2, q1, q2, _, hd'⟩ := H0.apart
        have hal : (addS (List.replicate freq.length 0) ((ro.take k).flatMap (symsF S.length (S.map plN)))).length = freq.length := by rw [addS_length, List.length_replicate]
        generalize hA : addS (List.replicate freq.length 0) ((ro.take k).flatMap (symsF S.length (S.map plN))) = A at *
        have own : w5.ownsRow 0 3 1 vl A.length (intsV A) := by rw [hal]; exact q1.1
        simp [e92, e93]
        refine ite_r (t := true) (by simp; omega) (fun _ => ?_) (fun h => by cases h)
        simp [wp_blk, e91, e93, sS, sL, pv, cell, hk]
        refine call_h (count_c hWf S.length (gn ro k) (hrv _ hgk) (hrv _ hgk) w5 vl _ q2.1 own (fun k hk e => hd' k (by rw [q1.2]; exact e) ((q2.2 k).2 hk)) (by rw [hal]; exact hsy)) (by simp [e9]) ?_
        rintro x w6 ⟨rfl, o6, M6⟩
        rw [hal, ← hA, ← addS_app] at o6
        simp [e9, e91, e92, e93, wk]
        refine ⟨hrd.mod M6 (fun k hk e => hk e), ?_⟩
        have ht : ro.take (k + 1) = ro.take k ++ [gn ro k] := by rw [List.take_add_one, gn_lt (by omega)]; rfl
        obtain ⟨F, ⟨_, rfl⟩, _, up⟩ := H.upd 1 rfl
        rw [ht, List.flatMap_append]
        have := up (.own 3 1 vl freq.length (intsV (addS (List.replicate freq.length 0) ((ro.take k).flatMap (symsF S.length (S.map plN)) ++ symsF S.length (S.map plN) (gn ro k))))) w6 _ M6 ⟨o6, rfl⟩ (fun k hk => .inl hk)
        simpa using this
      · rintro env w5 ⟨e9, e91, e92, e93, hrd, H⟩
        simp [e92, e93]
        refine ite_r (t := false) (by simp) (fun h => by cases h) (fun _ => ?_)
        simp [e9]
        have := (H.drop 0).drop 1
        have e : addS (List.replicate freq.length 0) ((ro.take q).flatMap (symsF S.length (S.map plN))) = lenP freq m := by
          unfold lenP
          rw [hn, hq, hro, ← hrol, List.take_length, ← hp, List.length_map]
        rw [e] at this
        exact this

end Go.Proofs.Ytgjnfajdejkkjaa.VG
