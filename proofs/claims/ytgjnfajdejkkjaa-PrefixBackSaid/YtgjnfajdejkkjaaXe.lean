/-
  Lengths, whatever is asked.
-/
import Derived.Test.YtgjnfajdejkkjaaXd
namespace Go.Proofs.Ytgjnfajdejkkjaa.VG
open Go
set_option linter.unusedSimpArgs false
set_option linter.unusedVariables false
set_option maxRecDepth 20000

def okF (x : Int) : Bool := decide (0 ≤ x) && decide (x ≤ 1099511627776)
def lenE (freq : List Int) (most : Int) : Int :=
  if freq.length < 1 ∨ 1024 < freq.length ∨ most < 1 ∨ 24 < most ∨ freq.all okF = false then 1 else if (usd freq).length = 0 then 7 else if 2 ^ most.toNat < (usd freq).length then 6 else 0
def lenQ (freq : List Int) (most : Int) : List Int :=
  if lenE freq most ≠ 0 then [] else if (usd freq).length = 1 then (List.replicate freq.length 0).set (gnn (usd freq) 0) 1 else lenP freq most.toNat

/-! ### How heavy -/
theorem sumT_mem {l : List Th} (h : ∀ z ∈ l, 0 ≤ z.1) : 0 ≤ sumT l ∧ ∀ z ∈ l, z.1 ≤ sumT l := by
  induction l with
  | nil => exact ⟨Int.le_refl _, fun z hz => by cases hz⟩
  | cons x r ih =>
    obtain ⟨a, b⟩ := ih (fun z hz => h z (by simp [hz]))
    have hx := h x (by simp)
    rw [sumT_cons]
    refine ⟨by omega, fun z hz => ?_⟩
    rcases List.mem_cons.1 hz with rfl | hz
    · omega
    · have := b z hz; omega
theorem pkT_le : ∀ {l : List Th}, (∀ z ∈ l, 0 ≤ z.1) → sumT (pkT l) ≤ sumT l
  | [], _ => Int.le_refl _
  | [x], h => by
    have := h x (by simp)
    rw [pkT]
    · simp [sumT]; omega
    · intro a b r h; cases h
  | a :: b :: r, h => by
    have := pkT_le (l := r) (fun z hz => h z (by simp [hz]))
    rw [pkT, sumT_cons, sumT_cons, sumT_cons]
    show a.1 + b.1 + _ ≤ _
    omega
theorem row_sum {c : List Th} (h0 : ∀ z ∈ c, 0 ≤ z.1) : ∀ k : Nat, sumT (rowT c k) ≤ ((k + 1 : Nat) : Int) * sumT c
  | 0 => by rw [rowT]; omega
  | k + 1 => by
    have ih := row_sum h0 k
    have := pkT_le (row_nn h0 k)
    rw [rowT, sumT_perm (mrgT_perm _ _), sumT_app, show ((k + 1 + 1 : Nat) : Int) = ((k + 1 : Nat) : Int) + 1 by omega, Int.add_mul]
    omega
theorem row_bd (freq : List Int) : ∀ k, ∀ p ∈ (rowP freq k).1, 0 ≤ p.1 ∧ p.1 ≤ ((k + 1 : Nat) : Int) * sumT (cnT freq)
  | 0, p, hp => by
    obtain ⟨_, s, hs, h0, rfl⟩ := cnP_pair hp
    have hm : coin freq s ∈ cnT freq := (cnT_perm freq).mem_iff.2 (List.mem_map_of_mem (usd_mem.2 ⟨hs, h0⟩))
    have := (sumT_mem (cn_nn freq)).2 _ hm
    unfold coin at this
    simp only at this ⊢
    omega
  | k + 1, p, hp => by
    have ih := row_bd freq k
    have hS := (sumT_mem (cn_nn freq)).1
    obtain ⟨hW, hr, hc, h1, h2⟩ := bp_all freq k
    have e : (rowP freq (k + 1)).1 = (rowP freq k).1 ++ pkL (wP (rowP freq k).1) (rowP freq k).2 := rfl
    have hth := pkL_th hW hr
    have hmul : ((k + 1 + 1 : Nat) : Int) * sumT (cnT freq) = ((k + 1 : Nat) : Int) * sumT (cnT freq) + sumT (cnT freq) := by rw [show ((k + 1 + 1 : Nat) : Int) = ((k + 1 : Nat) : Int) + 1 by omega, Int.add_mul]; omega
    rw [e] at hp
    rcases List.mem_append.1 hp with hp | hp
    · have := ih p hp; omega
    · have hrs := row_sum (cn_nn freq) k
      have hle := pkT_le (row_nn (cn_nn freq) k)
      have hnn : ∀ z ∈ pkT (rowT (cnT freq) k), 0 ≤ z.1 := fun z hz => by
        obtain ⟨a, ha, b, hb, e⟩ := pkT_mem hz
        have := row_nn (cn_nn freq) k a ha
        have := row_nn (cn_nn freq) k b hb
        omega
      unfold pkL at hp
      rw [List.mem_map] at hp
      obtain ⟨j, hj, rfl⟩ := hp
      rw [List.mem_range] at hj
      have hj' : j < ((rowP freq k).2.map (thP (rowP freq k).1)).length / 2 := by simpa using hj
      obtain ⟨x, y, g1, g2, g3⟩ := pkT_get _ j hj'
      rw [h2] at g3
      have hz := List.mem_of_getElem? g3
      have z1 := hnn _ hz
      have z2 := (sumT_mem hnn).2 _ hz
      rw [List.getElem?_map, gn_lt (by omega)] at g1 g2
      simp only [Option.map_some, Option.some.injEq] at g1 g2
      subst g1
      subst g2
      have e1 : (pk1 (wP (rowP freq k).1) (rowP freq k).2 j).1 = (thP (rowP freq k).1 (gn (rowP freq k).2 (2 * j))).1 + (thP (rowP freq k).1 (gn (rowP freq k).2 (2 * j + 1))).1 := rfl
      simp only at z1 z2
      rw [e1]
      omega
theorem cn_sum {freq : List Int} (hf : ∀ x ∈ freq, 0 ≤ x ∧ x ≤ 1099511627776) : sumT (cnT freq) ≤ 1099511627776 * (freq.length : Int) := by
  rw [sumT_perm (cnT_perm freq)]
  have hle : (usd freq).length ≤ freq.length := by
    have : (usd freq).length ≤ (List.range freq.length).length := List.length_filter_le ..
    simpa using this
  have : ∀ l : List Nat, (∀ s ∈ l, s < freq.length) → sumT (l.map (coin freq)) ≤ 1099511627776 * (l.length : Int) := by
    intro l
    induction l with
    | nil => intro _; exact Int.le_refl _
    | cons x r ih =>
      intro h
      have := ih (fun s hs => h s (by simp [hs]))
      have h2 := (hf _ (gi_mem freq x (h x (by simp)))).2
      rw [List.map_cons, sumT_cons, List.length_cons]
      show gi freq x + _ ≤ _
      omega
  have := this (usd freq) (fun s hs => (usd_mem.1 hs).1)
  omega
theorem w_bd {freq : List Int} (hf : ∀ x ∈ freq, 0 ≤ x ∧ x ≤ 1099511627776) (hn : freq.length ≤ 1024) {k : Nat} (hk : k < 24) (i : Nat) : 0 ≤ wP (rowP freq k).1 i ∧ wP (rowP freq k).1 i ≤ 4611686018427387903 := by
  have hs := cn_sum hf
  have h0 := (sumT_mem (cn_nn freq)).1
  have hm : ((k + 1 : Nat) : Int) * sumT (cnT freq) ≤ 24 * sumT (cnT freq) := Int.mul_le_mul_of_nonneg_right (by omega) h0
  have hb := row_bd freq k
  unfold wP
  rcases hP : (rowP freq k).1 with _ | ⟨p, P⟩
  · simp [plG]
  · have hmem : plG (p :: P) i ∈ (rowP freq k).1 := by
      rw [hP]
      unfold plG
      rcases e : (p :: P)[i]? with _ | n
      · simp
      · simpa using List.mem_of_getElem? e
    have := hb _ hmem
    omega
theorem rl_eq (freq : List Int) (k : Nat) : (rowP freq k).2.length = (rowT (cnT freq) k).length := by
  obtain ⟨_, _, _, _, h⟩ := bp_all freq k
  rw [← h, List.length_map]

set_option maxHeartbeats 4000000 in
theorem lengths_c {G : Nat → Prop} {w : World} {u : Value} {freq : List Int} (most : Int) (hr : Rd G w u freq.length (intsV freq)) (hsz : freq.length ≤ 1000 ∨ 1024 < freq.length) (hml : freq.length ≤ maxLen) :
    Calls Try.prog 12 [u, .int .i64 most].toArray w (Ret fun x w' => ∃ v, x = .tuple #[v, .int .i64 (lenE freq most)] ∧ Hp w w' [.own 3 1 v (lenQ freq most).length (intsV (lenQ freq most))]) := by
  refine F_sound c12 (by simp [fc12]) ?_
  obtain ⟨hS, hSL⟩ := hr.sl
  have hM : maxLen = 9223372036854775807 := rfl
  have hnil : ∀ {w' : World}, Mod none' w w' → Hp w w' [.own 3 1 (.slice none 0 0) ([] : List Int).length (intsV [])] := fun M => (Hp.ofMod M).nilS
  simp [fc12, s12, hS, hSL]
  by_cases hargs : freq.length < 1 ∨ 1024 < freq.length ∨ most < 1 ∨ 24 < most
  · have hE : lenE freq most = 1 := by unfold lenE; rw [if_pos (by omega)]
    have hQ : lenQ freq most = [] := by unfold lenQ; rw [hE]; rfl
    rw [hE, hQ]
    refine ite_r (t := true) (by simp; omega) (fun _ => ?_) (fun h => by cases h)
    simp
    exact hnil (Mod.refl _ _)
  have h1 : 1 ≤ freq.length := by omega
  have h2 : freq.length ≤ 1000 := by omega
  obtain ⟨m, rfl⟩ : ∃ m : Nat, most = m := ⟨most.toNat, by omega⟩
  have m1 : 1 ≤ m := by omega
  have m2 : m ≤ 24 := by omega
  refine ite_r (t := false) (by simp; omega) (fun h => by cases h) (fun _ => ?_)
  simp [hS, hSL]
  have H : Hp w w [.own 61 1 (.slice none 0 0) 0 [], .nd [] []] :=
    ((Hp.nil w).nilS (e := 61) (size := 1)).add (i := It.nd [] []) (F := fun _ => False) (Mod.refl _ _) ⟨(fun n hn => by cases hn), fun k => ⟨fun h => h.elim, fun ⟨n, hn, _⟩ => by cases hn⟩⟩ (fun k hk => hk.elim)
  refine for_r freq.length (fun i env' w' => CInv w u (.int .i64 m) freq i env' w' ∧ ∀ j, j < i → 0 ≤ gi freq j ∧ gi freq j ≤ 1099511627776) ?_ ?_ ?_
  · exact ⟨⟨by simp, by simp, by simp, by simp, by simp, [], rfl, (fun k n h => by simp at h), (fun n h => by cases h), _, by simp, H⟩, fun j hj => by omega⟩
  · rintro i env w1 hi ⟨⟨e0, e1, e29, e30, e31, S, hp, hWf, hsy, ve, e6, H⟩, hgood⟩
    have wi : IntKind.i64.wrap ((i : Int) + 1) = ((i + 1 : Nat) : Int) := by rw [wI (by omega) (by omega)]; omega
    have cf := (hr.at H.mod).gi i hi
    have pf := hr.some (by omega)
    have hcn : cnP freq (i + 1) = cnP freq i ++ (if 0 < gi freq i then [(gi freq i, (i : Int), none)] else []) := by unfold cnP; rw [List.range_succ, List.flatMap_append]; simp
    simp [e30, e31]
    refine ite_r (t := true) (by simp [hi]) (fun _ => ?_) (fun h => by cases h)
    simp [wp_blk, e0, e1, e29, e31, hS, hSL, pf, cf, hi]
    by_cases hfb : gi freq i < 0 ∨ 1099511627776 < gi freq i
    · have hE : lenE freq m = 1 := by
        unfold lenE
        have : freq.all okF = false := by
          rw [List.all_eq_false]
          refine ⟨_, gi_mem freq i hi, ?_⟩
          simp [okF]; omega
        rw [if_pos (by simp [this])]
      have hQ : lenQ freq m = [] := by unfold lenQ; rw [hE]; rfl
      rw [hE, hQ]
      refine ite_r (t := true) (by simp; omega) (fun _ => ?_) (fun h => by cases h)
      simp
      exact hnil H.mod
    have f0 : 0 ≤ gi freq i := by omega
    have f1 : gi freq i ≤ 1099511627776 := by omega
    have hgood' : ∀ j, j < i + 1 → 0 ≤ gi freq j ∧ gi freq j ≤ 1099511627776 := fun j hj => by
      rcases Nat.lt_or_ge j i with h | h
      · exact hgood j h
      · obtain rfl : j = i := by omega
        exact ⟨f0, f1⟩
    refine ite_r (t := false) (by simp; omega) (fun h => by cases h) (fun _ => ?_)
    by_cases hpos : 0 < gi freq i
    · simp
      refine ite_r (t := true) (by simp [hpos]) (fun _ => ?_) (fun h => by cases h)
      simp [putAt, Value.cells]
      have hSl : S.length ≤ i := by
        have := cnP_le freq i
        rw [← hp, List.length_map] at this
        exact this
      refine box_h (.agg #[.int .i64 (gi freq i), .int .i64 i, .slice none 0 0]) H (by simp [putAt, Value.cells]) ?_
      intro b w4 H M4
      refine ⟨.inl rfl, ?_⟩
      simp
      refine app1_h slTE 0 H rfl (u := .pointer (some ⟨b, 0, none⟩)) rfl (by omega) (by omega) (by simp) (by simp [e6]) (by simp) (fun _ _ => trivial) ?_
      intro vb v' w5 w6 H
      refine ⟨.inl rfl, ?_⟩
      simp [e31, wi]
      let n : Nd := ⟨b, gi freq i, i, none⟩
      have H1 : Hp w w6 ([.own 61 1 v' (S.length + 1) ((List.range S.length).map (ndP S) ++ [.pointer (some ⟨b, 0, none⟩)])] ++ [.nd S S, .blk b (ndC n)]) := H
      have H2 := Hp.fuse _ (.nd (S ++ [n]) (S ++ [n])) H1 (fun F1 F2 h1 h2 => nd_join h1 (nd_coin h2) (fun hl => hl.more (fun m hm => hWf.bound m hm)))
      have e1' : (List.range S.length).map (ndP S) ++ [Value.pointer (some ⟨b, 0, none⟩)] = (List.range (S ++ [n]).length).map (ndP (S ++ [n])) := by
        rw [List.length_append, List.length_singleton, List.range_succ, List.map_append, map_app (S := S) (T := [n]) (fun i hi => List.mem_range.1 hi), List.map_singleton]
        unfold ndP
        rw [ndG_new]
      rw [e1'] at H2
      rw [if_pos hpos] at hcn
      refine ⟨⟨by simp [e0], by simp [e1], by simp [e29], by simp [e30], by simp, S ++ [n], by rw [hcn, List.map_append, hp]; rfl, hWf.snoc n (fun p a b h => by cases h), ?_, v', by simp, by simpa using H2⟩, hgood'⟩
      intro x hx
      rcases List.mem_append.1 hx with hx | hx
      · exact hsy x hx
      · simp only [List.mem_singleton] at hx
        subst hx
        exact ⟨by simp [n], by simp only [n]; omega⟩
    · simp
      refine ite_r (t := false) (by simp; omega) (fun h => by cases h) (fun _ => ?_)
      simp [e31, wi]
      rw [if_neg hpos, List.append_nil] at hcn
      exact ⟨⟨by simp [e0], by simp [e1], by simp [e29], by simp [e30], by simp, S, by rw [hcn]; exact hp, hWf, hsy, ve, by simp [e6], H⟩, hgood'⟩
  · rintro env w1 ⟨⟨e0, e1, e29, e30, e31, S, hp, hWf, hsy, vc, e6, H⟩, hgood⟩
    have hf : ∀ x ∈ freq, 0 ≤ x ∧ x ≤ 1099511627776 := fun x hx => by
      obtain ⟨j, hj, rfl⟩ := List.mem_iff_getElem.1 hx
      have := hgood j hj
      rwa [gi_get _ _ hj] at this
    have hall : freq.all okF = true := List.all_eq_true.2 fun x hx => by
      have := hf x hx
      simp [okF, this]
    have hE : lenE freq m = if (usd freq).length = 0 then 7 else if 2 ^ m < (usd freq).length then 6 else 0 := by
      unfold lenE
      rw [if_neg (by rintro (h | h | h | h | h) <;> first | omega | (rw [hall] at h; cases h)), Int.toNat_natCast]
    have hnu : (cnP freq freq.length).length = (usd freq).length := by rw [← cnT_len, us_len]
    have hw : ∀ k, k < m → ∀ i, 0 ≤ wP (rowP freq k).1 i ∧ wP (rowP freq k).1 i ≤ 4611686018427387903 := fun k hk i => w_bd hf (by omega) (by omega) i
    simp [e30, e31]
    refine ite_r (t := false) (by simp) (fun h => by cases h) (fun _ => ?_)
    simp
    have hSn : S.length = (cnP freq freq.length).length := by rw [← hp, List.length_map]
    obtain ⟨cS, cL⟩ := (H.rd 0 rfl).sl
    have hl : 0 < (usd freq).length → ∀ k, k < m → (rowP freq k).2.length < 2 * (cnP freq freq.length).length := fun h0 k _ => by
      rw [rl_eq, hnu, ← us_len]
      exact (row_short _ (by rw [us_len]; exact h0) k).1
    have hb : 0 < (usd freq).length → (usd freq).length ≤ 2 ^ m → 2 * (cnP freq freq.length).length - 2 ≤ (rowP freq (m - 1)).2.length := fun h0 h3 => by
      rw [rl_eq, hnu, ← us_len]
      exact row_enough (by rw [us_len]; exact h0) (by rw [show m - 1 + 1 = m by omega, us_len]; exact h3)
    have hcth := cnP_th freq freq.length
    rw [show ((List.range freq.length).filter fun k => decide (0 < gi freq k)) = usd freq from rfl] at hcth
    generalize hn : (cnP freq freq.length).length = n at *
    simp [e6, cS, cL]
    by_cases hz0 : n = 0
    · rw [if_pos (by omega)] at hE
      have hQ : lenQ freq m = [] := by unfold lenQ; rw [hE]; rfl
      rw [hE, hQ]
      obtain rfl : S = [] := List.length_eq_zero_iff.1 (by omega)
      refine ite_r (t := true) (by simp) (fun _ => ?_) (fun h => by cases h)
      simp
      exact hnil H.mod
    have hS0 : S ≠ [] := by intro h; rw [h] at hSn; simp at hSn; omega
    rw [if_neg (by omega)] at hE
    have hl := hl (by omega)
    refine ite_r (t := false) (by simp; omega) (fun h => by cases h) (fun _ => ?_)
    have hsh : shl .i64 1 m = ((2 ^ m : Nat) : Int) := by
      have := shl_p2 (d := m) (by omega) (by omega)
      rw [this]; simp [p2]
    simp [e1, e6, cS, cL, hsh, -Int.natCast_pow]
    by_cases hbig : 2 ^ m < n
    · rw [if_pos (by omega)] at hE
      have hQ : lenQ freq m = [] := by unfold lenQ; rw [hE]; rfl
      rw [hE, hQ]
      refine ite_r (t := true) (by simp [-Int.natCast_pow]; omega) (fun _ => ?_) (fun h => by cases h)
      simp
      exact hnil H.mod
    rw [if_neg (by omega)] at hE
    have nm : n ≤ 2 ^ m := by omega
    have hb := hb (by omega) (by omega)
    refine ite_r (t := false) (by simp [-Int.natCast_pow]; omega) (fun h => by cases h) (fun _ => ?_)
    simp [e0, hS, hSL]
    refine mkN_h slTI (kl := .i64) (kc := .i64) (n := freq.length) (xs := intsV (List.replicate freq.length 0)) H (by simp [e0, hS, hSL]) (by simp [e0, hS, hSL]) (by omega) (by omega) (fun z hz => by rw [zero64 hz, intsV_zeros]) ?_
    intro vl w2 H M2
    refine ⟨.inl rfl, ?_⟩
    simp [e6, cS, cL]
    by_cases hone : n = 1
    · obtain ⟨nd, rfl⟩ : ∃ x, S = [x] := List.length_eq_one_iff.1 (by omega)
      obtain ⟨s, hus⟩ : ∃ x, usd freq = [x] := List.length_eq_one_iff.1 (by omega)
      have hQ : lenQ freq m = (List.replicate freq.length 0).set s 1 := by
        unfold lenQ
        rw [hE, if_neg (by simp), if_pos (by omega), hus]
        rfl
      rw [← hp, hus] at hcth
      simp only [List.map_cons, List.map_nil, List.cons.injEq, and_true, coin, Prod.mk.injEq, plN] at hcth
      have hsy0 := hsy nd (by simp)
      have hsn : nd.sy = (s : Int) := by have := hcth.2; omega
      have hsl : s < freq.length := by omega
      have cc := (H.rd 0 rfl).cell 0 _ rfl
      have pc := ((H.rd 0 rfl).ptr (by simp)).1
      have LN : Lies w2 [nd] [nd] := by
        obtain ⟨F, ⟨h1, _⟩, _⟩ := H.upd 1 rfl
        exact h1
      obtain ⟨_, c1, _⟩ := LN.cells (n := nd) (by simp)
      rw [hsn] at c1
      have cc : w2.cell? ((slB vc).add 0) = some (.pointer (some ⟨nd.b, 0, none⟩)) := cc
      have cc0 : w2.cell? (slB vc) = some (.pointer (some ⟨nd.b, 0, none⟩)) := by simpa [Addr.add] using cc
      obtain ⟨lS, lL⟩ := (H.rd 2 rfl).sl
      have pl := (H.rd 2 rfl).some (by simp; omega)
      refine ite_r (t := true) (by simp) (fun _ => ?_) (fun h => by cases h)
      simp [e6, cS, cL, pc, cc, cc0, c1, lS, lL, pl, hsl]
      refine set_h (i := s) (u := .int .i64 1) 2 H rfl hsl (by simp) (by simp) rfl ?_
      intro w3 H
      refine ⟨.inl rfl, ?_⟩
      simp
      have e1 : (intsV (List.replicate freq.length 0)).set s (.int .i64 1) = intsV ((List.replicate freq.length 0).set s 1) := by simp [intsV, List.map_set]
      rw [hE, hQ]
      rw [e1] at H
      have := (H.drop 0).drop 0
      exact ⟨vl, ⟨rfl, rfl⟩, by simpa using this⟩
    have n2 : 2 ≤ n := by omega
    have n10 : n ≤ 1000 := by
      have : (usd freq).length ≤ (List.range freq.length).length := List.length_filter_le ..
      rw [List.length_range] at this
      omega
    have hQ : lenQ freq m = lenP freq m := by
      unfold lenQ
      rw [hE, if_neg (by simp), if_neg (by omega), Int.toNat_natCast]
    rw [hE, hQ, lenP_len]
    refine ite_r (t := false) (by simp; omega) (fun h => by cases h) (fun _ => ?_)
    simp [e6]
    obtain ⟨F1, F2, p1, p2, hF, hd⟩ := H.apart
    have hcR : srt (ltW S) (List.range S.length) = cnR freq := by unfold cnR; rw [ltW_pl, hp, hSn, hn]
    have hcl : (cnR freq).length = n := by rw [cnR_length, hn]
    have own : w2.ownsRow 0 61 1 vc (List.range S.length).length ((List.range S.length).map (ndP S)) := by rw [List.length_range]; exact p1.1
    refine call_h (order_c (S := S) (r := List.range S.length) (by simpa using hS0) own (by rw [List.length_range]; omega) fun i => ?_) (by simp [e6]) ?_
    · have hm := ndG_mem hS0 i
      refine ⟨(p2.1.cells hm).1, p2.1.lt _ ⟨_, hm, .inl rfl⟩, fun e => ?_⟩
      exact hd _ (by rw [p1.2]; exact e) ((p2.2 _).2 ⟨_, hm, .inl rfl⟩)
    rintro x w3 ⟨rfl, ho, M⟩
    rw [hcR, List.length_range, hSn, ← hcl] at ho
    have H' : Hp w w3 [.own 61 1 vc (cnR freq).length ((cnR freq).map (ndP S)), .nd S S, .own 3 1 vl freq.length (intsV (List.replicate freq.length 0))] := by
      obtain ⟨F, ⟨_, rfl⟩, _, up⟩ := H.upd 0 rfl
      exact up (.own 61 1 vc (cnR freq).length ((cnR freq).map (ndP S))) w3 _ M ⟨ho, rfl⟩ (fun k hk => .inl hk)
    replace H := H'.perm (l' := [.own 61 1 vc (cnR freq).length ((cnR freq).map (ndP S)), .own 3 1 vl freq.length (intsV (List.replicate freq.length 0)), .nd S S]) (List.Perm.cons _ (List.Perm.swap _ _ _))
    have wm : IntKind.i64.wrap ((m : Int) - 1) = ((m - 1 : Nat) : Int) := by rw [wI (by omega) (by omega)]; omega
    simp [e1, e6, wm]
    refine for_r (m - 1) (RInv w u (.int .i64 m) vc vl freq m) ?_ ?_ ?_
    · refine ⟨by simp [e0], by simp [e1], by simp [e6], by simp, by simp, by simp, S, hp, hWf, hsy, ?_, ?_, hS0, ?_, H⟩
      · intro i hi
        have : i ∈ cnR freq := hi
        rw [← hcR, srt_mem, List.mem_range] at this
        exact this
      · intro i hi
        rw [← hcR, srt_mem, List.mem_range] at hi
        exact hi
      · obtain ⟨F1, F2, q1, q2, _, hd'⟩ := H.apart
        have hc := H.rc 0 rfl
        simp
        exact ⟨(Rd.of_owns q1.1).mono (fun k hk e => hd' k (by rw [q1.2]; exact hk.1) (by rw [q2.2]; exact e)), hc.cap, hc.len⟩
    · rintro k env w4 hk hI
      have hI' := hI
      obtain ⟨e0, e1, e6, e9, e79, e80, _⟩ := hI'
      have wk : IntKind.i64.wrap ((k : Int) + 1) = ((k + 1 : Nat) : Int) := by rw [wI (by omega) (by omega)]; omega
      simp [e79, e80]
      refine ite_r (t := true) (by simp; omega) (fun _ => ?_) (fun h => by cases h)
      simp [wp_blk]
      have hI2 : RInv w u (.int .i64 m) vc vl freq m k (upd env 81 (.bool true)) w4 := by
        obtain ⟨e0, e1, e6, e9, e79, e80, S, q⟩ := hI
        exact ⟨by simp [e0], by simp [e1], by simp [e6], by simp [e9], by simp [e79], by simp [e80], S, q⟩
      refine round_c hI2 h1 (by omega) (by omega) (hw k (by omega)) (by rw [hcl]; exact hl k (by omega)) ?_
      intro x w5 hx
      simp [e0, e1, e6, e9, e79, e80, wk]
      exact hx _ (by simp [e0]) (by simp [e1]) (by simp [e6]) (by simp [e9]) (by simp [e79]) (by simp) (by simp)
    · rintro env w4 ⟨e0, e1, e6, e9, e79, e80, S, hp, hWf, hsy, hrv, hcv, hS0, hR, H⟩
      simp [e79, e80]
      refine ite_r (t := false) (by simp) (fun h => by cases h) (fun _ => ?_)
      simp
      obtain ⟨rS, rL, rC⟩ := hR.sl
      have hrc := hR.cut 0 (2 * n - 2) (by omega) (by omega)
      obtain ⟨cS', cL'⟩ := (H.rd 0 rfl).sl
      have w2n : IntKind.i64.wrap (2 * (n : Int)) = ((2 * n : Nat) : Int) := by rw [wI (by omega) (by omega)]; omega
      have w2m : IntKind.i64.wrap (((2 * n : Nat) : Int) - 2) = ((2 * n - 2 : Nat) : Int) := by rw [wI (by omega) (by omega)]; omega
      rw [hcl] at cL'
      generalize hq : 2 * n - 2 = q at *
      rw [List.drop_zero, ← List.map_take] at hrc
      generalize hsv : slVal 1 (env 10) 0 q = sv at *
      obtain ⟨sS, sL, _⟩ := hrc.sl
      simp [e6, cS', cL', w2n, w2m, hsv, sS, sL, rS, -Int.natCast_mul]
      refine ⟨by omega, ?_⟩
      generalize hro : (rowP freq (m - 1)).2.take q = ro at *
      have hrol : ro.length = q := by rw [← hro, List.length_take]; omega
      have hrd : Rd (fun k => vl.ownBlock ≠ some k) w4 sv ro.length (ro.map (ndP S)) := by rw [hrol]; exact hrc.rd
      refine for_r q (fun k env' w' => env' 9 = vl ∧ env' 91 = sv ∧ env' 92 = .int .i64 q ∧ env' 93 = .int .i64 k ∧ Rd (fun k => vl.ownBlock ≠ some k) w' sv ro.length (ro.map (ndP S)) ∧
        Hp w w' [.own 61 1 vc (cnR freq).length ((cnR freq).map (ndP S)), .own 3 1 vl freq.length (intsV (addS (List.replicate freq.length 0) ((ro.take k).flatMap (symsF S.length (S.map plN))))), .nd S S]) ?_ ?_ ?_
      · exact ⟨by simp [e9], by simp, by simp, by simp, hrd, by simpa [addS] using H⟩
      · rintro k env w5 hk ⟨e9, e91, e92, e93, hrd, H⟩
        have wk : IntKind.i64.wrap ((k : Int) + 1) = ((k + 1 : Nat) : Int) := by rw [wI (by omega) (by omega)]; omega
        have cell := rd_nd hrd k (by omega)
        have pv := (hrd.ptr (by rw [List.length_map]; omega)).1
        have hgk : gn ro k ∈ (rowP freq (m - 1)).2 := by
          have h1 := gn_mem (r := ro) (i := k) (by omega)
          have h2 : gn ro k ∈ (rowP freq (m - 1)).2.take q := by rw [hro]; exact h1
          exact List.mem_of_mem_take h2
        have H0 := H.perm (l' := [.own 3 1 vl freq.length (intsV (addS (List.replicate freq.length 0) ((ro.take k).flatMap (symsF S.length (S.map plN))))), .nd S S, .own 61 1 vc (cnR freq).length ((cnR freq).map (ndP S))])
          ((List.Perm.swap _ _ _).trans (List.Perm.cons _ (List.Perm.swap _ _ _)))
        obtain ⟨F1, F2, q1, q2, _, hd'⟩ := H0.apart
        have hal : (addS (List.replicate freq.length 0) ((ro.take k).flatMap (symsF S.length (S.map plN)))).length = freq.length := by rw [addS_length, List.length_replicate]
        generalize hA : addS (List.replicate freq.length 0) ((ro.take k).flatMap (symsF S.length (S.map plN))) = A at *
        have own : w5.ownsRow 0 3 1 vl A.length (intsV A) := by rw [hal]; exact q1.1
        simp [e92, e93]
        refine ite_r (t := true) (by simp; omega) (fun _ => ?_) (fun h => by cases h)
        simp [wp_blk, e91, e93, sS, sL, pv, cell, hk]
        refine call_h (count_c hWf S.length (gn ro k) (hrv _ hgk) (hrv _ hgk) w5 vl _ q2.1 own (fun k hk e => hd' k (by rw [q1.2]; exact e) ((q2.2 k).2 hk)) (by rw [hal]; exact hsy)) (by simp [e9]) ?_
        rintro x w6 ⟨rfl, o6, M6⟩
        rw [hal, ← hA, ← addS_app] at o6
        simp [e9, e91, e92, e93, wk]
        refine ⟨hrd.mod M6 (fun k hk e => hk e), ?_⟩
        have ht : ro.take (k + 1) = ro.take k ++ [gn ro k] := by rw [List.take_add_one, gn_lt (by omega)]; rfl
        obtain ⟨F, ⟨_, rfl⟩, _, up⟩ := H.upd 1 rfl
        rw [ht, List.flatMap_append]
        have := up (.own 3 1 vl freq.length (intsV (addS (List.replicate freq.length 0) ((ro.take k).flatMap (symsF S.length (S.map plN)) ++ symsF S.length (S.map plN) (gn ro k))))) w6 _ M6 ⟨o6, rfl⟩ (fun k hk => .inl hk)
        simpa using this
      · rintro env w5 ⟨e9, e91, e92, e93, hrd, H⟩
        simp [e92, e93]
        refine ite_r (t := false) (by simp) (fun h => by cases h) (fun _ => ?_)
        simp [e9]
        have := (H.drop 0).drop 1
        have e : addS (List.replicate freq.length 0) ((ro.take q).flatMap (symsF S.length (S.map plN))) = lenP freq m := by
          unfold lenP
          rw [hn, hq, hro, ← hrol, List.take_length, ← hp, List.length_map]
        rw [e] at this
        exact this

end Go.Proofs.Ytgjnfajdejkkjaa.VG
