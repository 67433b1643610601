/-
  The document's lengths: what stands in the rows; the coins.
-/
import Derived.Test.YtgjnfajdejkkjaaXj
namespace Go.Proofs.Ytgjnfajdejkkjaa.VG
open Go
set_option linter.unusedSimpArgs false
set_option linter.unusedVariables false
set_option maxRecDepth 20000

/-! ### Rows of symbols that nobody changes -/
def It.bag (B : List (Value × List Nat)) : It where
  P w F := (∀ p ∈ B, w.ownsRow 0 3 1 p.1 p.2.length (natsV p.2)) ∧ ∀ k, F k ↔ ∃ p ∈ B, p.1.ownBlock = some k
  st := fun ⟨h, hF⟩ m d => ⟨fun p hp => m.owns (h p hp) (fun k hk => d k ((hF k).2 ⟨p, hp, hk⟩)), hF⟩
  lt := fun ⟨h, hF⟩ k hk => by
    obtain ⟨p, hp, e⟩ := (hF k).1 hk
    exact ((h p hp).lt k e).2
theorem bag_nil {w : World} : (It.bag []).P w (fun _ => False) := ⟨fun p hp => (by cases hp), fun k => ⟨fun h => h.elim, fun ⟨p, hp, _⟩ => by cases hp⟩⟩
theorem bag_own {w : World} {B : List (Value × List Nat)} {v : Value} {l : List Nat} {F G : Nat → Prop} (h : (It.bag B).P w F) (k : (It.own 3 1 v l.length (natsV l)).P w G) : (It.bag (B ++ [(v, l)])).P w (fun k => F k ∨ G k) := by
  obtain ⟨h1, h2⟩ := h
  obtain ⟨k1, rfl⟩ := k
  refine ⟨fun p hp => ?_, fun k => ?_⟩
  · rcases List.mem_append.1 hp with hp | hp
    · exact h1 p hp
    · simp only [List.mem_singleton] at hp; subst hp; exact k1
  · show (F k ∨ _) ↔ _
    rw [h2 k]
    constructor
    · rintro (⟨p, hp, e⟩ | e)
      · exact ⟨p, by simp [hp], e⟩
      · exact ⟨(v, l), by simp, e⟩
    · rintro ⟨p, hp, e⟩
      rcases List.mem_append.1 hp with hp | hp
      · exact .inl ⟨p, hp, e⟩
      · simp only [List.mem_singleton] at hp; subst hp; exact .inr e
theorem bag_bag {w : World} {B D : List (Value × List Nat)} {F G : Nat → Prop} (h : (It.bag B).P w F) (k : (It.bag D).P w G) : (It.bag (B ++ D)).P w (fun k => F k ∨ G k) := by
  obtain ⟨h1, h2⟩ := h
  obtain ⟨k1, k2⟩ := k
  refine ⟨fun p hp => ?_, fun k => ?_⟩
  · rcases List.mem_append.1 hp with hp | hp
    · exact h1 p hp
    · exact k1 p hp
  · show (F k ∨ G k) ↔ _
    rw [h2 k, k2 k]
    constructor
    · rintro (⟨p, hp, e⟩ | ⟨p, hp, e⟩)
      · exact ⟨p, by simp [hp], e⟩
      · exact ⟨p, by simp [hp], e⟩
    · rintro ⟨p, hp, e⟩
      rcases List.mem_append.1 hp with hp | hp
      · exact .inl ⟨p, hp, e⟩
      · exact .inr ⟨p, hp, e⟩
theorem Hp.bag {W w : World} {l : List It} (h : Hp W w l) (j : Nat) {B : List (Value × List Nat)} (hj : l[j]? = some (.bag B)) : ∀ p ∈ B, Rd (fun _ => True) w p.1 p.2.length (natsV p.2) := fun p hp => by
  obtain ⟨F, ⟨h1, _⟩, _⟩ := h.upd j hj
  exact (Rd.of_owns (h1 p hp)).top
/-- Every thing's symbols lie in the bag. -/
def InB (R : List Dn) (B : List (Value × List Nat)) : Prop := ∀ d ∈ R, (d.v, d.l) ∈ B
theorem InB.more {R : List Dn} {B D : List (Value × List Nat)} (h : InB R B) : InB R (B ++ D) := fun d hd => List.mem_append_left _ (h d hd)
theorem InB.sl {W w : World} {l : List It} (h : Hp W w l) (j : Nat) {B : List (Value × List Nat)} (hj : l[j]? = some (.bag B)) {R : List Dn} (hR : InB R B) : ∀ d ∈ R, DnS d := fun d hd => by
  obtain ⟨cap, hv⟩ := (h.bag j hj _ (hR d hd)).is
  exact ⟨_, _, _, hv⟩

/-! ### The coins -/
theorem cnP_succ (freq : List Int) (i : Nat) : cnP freq (i + 1) = cnP freq i ++ (if 0 < gi freq i then [(gi freq i, (i : Int), none)] else []) := by unfold cnP; rw [List.range_succ, List.flatMap_append]; simp
theorem cnP_pre (freq : List Int) (i : Nat) : ∀ n, ∃ Q, cnP freq (i + n) = cnP freq i ++ Q
  | 0 => ⟨[], by simp⟩
  | n + 1 => by
    obtain ⟨Q, h⟩ := cnP_pre freq i n
    rw [← Nat.add_assoc, cnP_succ, h, List.append_assoc]
    exact ⟨_, rfl⟩
theorem cn_at {freq : List Int} {i : Nat} (hi : i < freq.length) (h0 : 0 < gi freq i) : thP (cnP freq freq.length) (cnP freq i).length = (gi freq i, [i]) ∧ (cnP freq i).length < (cnP freq freq.length).length := by
  obtain ⟨Q, hQ⟩ := cnP_pre freq (i + 1) (freq.length - (i + 1))
  rw [show i + 1 + (freq.length - (i + 1)) = freq.length by omega, cnP_succ, if_pos h0, List.append_assoc] at hQ
  have hlt : (cnP freq i).length < (cnP freq freq.length).length := by rw [hQ]; simp
  refine ⟨?_, hlt⟩
  have hg : plG (cnP freq freq.length) (cnP freq i).length = (gi freq i, (i : Int), none) := by
    unfold plG
    rw [hQ]; simp
  obtain ⟨q, hq⟩ : ∃ q, (cnP freq freq.length).length = q + 1 := ⟨(cnP freq freq.length).length - 1, by omega⟩
  unfold thP wP
  rw [hg, hq, symsF, hg]
  rfl
def cnL (freq : List Int) (i : Nat) : List Nat := srt (ltP (cnP freq freq.length)) (List.range (cnP freq i).length)
/-- The coins of the first i counts, by weight. -/
def CnD (freq : List Int) (i : Nat) (A : List Dn) : Prop := A.map thD = (cnL freq i).map (thP (cnP freq freq.length))
theorem CnD.none {freq : List Int} {i : Nat} {A : List Dn} (h : CnD freq i A) (h0 : ¬ 0 < gi freq i) : CnD freq (i + 1) A := by
  unfold CnD cnL at *
  rw [cnP_succ, if_neg h0, List.append_nil]; exact h
theorem CnD.put {freq : List Int} {i z : Nat} {A : List Dn} {x : Dn} (h : CnD freq i A) (hi : i < freq.length) (h0 : 0 < gi freq i) (hx : thD x = (gi freq i, [i])) (hz : z ≤ A.length) (h1 : ∀ d ∈ A.drop z, x.wt < d.wt) (h2 : z = 0 ∨ ∃ y, A[z - 1]? = some y ∧ y.wt ≤ x.wt) : CnD freq (i + 1) (A.take z ++ ([x] ++ A.drop z)) := by
  obtain ⟨c1, c2⟩ := cn_at hi h0
  have hasc := srt_asc (ltP_dec (cnP freq freq.length)) (List.range (cnP freq i).length)
  have hxw : x.wt = wP (cnP freq freq.length) (cnP freq i).length := by
    have := congrArg Prod.fst hx
    have h3 := congrArg Prod.fst c1
    exact this.trans h3.symm
  have hat : ∀ (j : Nat) (d : Dn), A[j]? = some d → ∃ s, (cnL freq i)[j]? = some s ∧ d.wt = wP (cnP freq freq.length) s := fun j d hd => by
    have := congrArg (fun l => l[j]?) h
    simp only [List.getElem?_map, hd, Option.map_some] at this
    cases hs : (cnL freq i)[j]? with
    | none => rw [hs] at this; cases this
    | some s =>
      rw [hs] at this
      simp only [Option.map_some, Option.some.injEq] at this
      exact ⟨s, rfl, congrArg Prod.fst this⟩
  have hlen : A.length = (cnL freq i).length := by
    have := congrArg List.length h
    simpa using this
  unfold CnD
  have hL : cnL freq (i + 1) = (cnL freq i).take z ++ (cnP freq i).length :: (cnL freq i).drop z := by
    have e : cnL freq (i + 1) = insL (ltP (cnP freq freq.length)) (cnP freq i).length (cnL freq i) := by
      unfold cnL
      rw [cnP_succ, if_pos h0, List.length_append, List.length_singleton, List.range_succ, srt_snoc]
    rw [e]
    conv => lhs; rw [← List.take_append_drop z (cnL freq i)]
    refine insL_app (ltP_dec _) ?_ ?_
    · intro s hs
      obtain ⟨j, j1, j2, rfl⟩ := take_ix hs
      rcases h2 with rfl | ⟨y, hy, hle⟩
      · omega
      · obtain ⟨s, hs1, hs2⟩ := hat _ _ hy
        have hs3 : s = gnn (cnL freq i) (z - 1) := by
          have := (List.getElem?_eq_some_iff.1 hs1).1
          rw [gnn_lt this] at hs1; simpa using hs1.symm
        have := asc_ix hasc (i := j) (j := z - 1) (by omega) (by show z - 1 < (cnL freq i).length; omega)
        show wP _ (gnn (cnL freq i) j) ≤ _
        have h4 : wP (cnP freq freq.length) (gnn (cnL freq i) j) ≤ wP (cnP freq freq.length) (gnn (cnL freq i) (z - 1)) := this
        rw [← hs3] at h4
        omega
    · intro s hs
      obtain ⟨j, j1, j2, rfl⟩ := drop_ix hs
      have hjA : j < A.length := by omega
      have hm : A[j] ∈ A.drop z := by
        rw [List.mem_drop_iff_getElem]
        exact ⟨j - z, by omega, by congr 1; omega⟩
      have := h1 _ hm
      obtain ⟨s, hs1, hs2⟩ := hat j A[j] (List.getElem?_eq_getElem hjA)
      rw [gnn_lt j2] at hs1
      simp only [Option.some.injEq] at hs1
      subst hs1
      omega
  rw [hL, List.map_append, List.map_append, List.map_append, List.map_cons, List.map_cons, List.map_nil, hx, c1, List.map_take, List.map_drop, h, List.map_take, List.map_drop]
  rfl
theorem CnD.all {freq : List Int} {A : List Dn} (h : CnD freq freq.length A) : A.map thD = cnT freq := h

/-! ### Packages -/
theorem pk_next {l : List Th} {j : Nat} {a b : Th} (ha : l[2 * j]? = some a) (hb : l[2 * j + 1]? = some b) : (pkT l).take (j + 1) = (pkT l).take j ++ [(a.1 + b.1, a.2 ++ b.2)] := by
  have h2 := (List.getElem?_eq_some_iff.1 hb).1
  obtain ⟨x, y, h3, h4, h5⟩ := pkT_get l j (by omega)
  rw [ha] at h3
  rw [hb] at h4
  simp only [Option.some.injEq] at h3 h4
  subst h3
  subst h4
  rw [List.take_add_one, h5]; rfl
theorem pkT_mem2 {z : Th} : ∀ {l : List Th}, z ∈ pkT l → ∃ a ∈ l, ∃ b ∈ l, z.2 = a.2 ++ b.2
  | [], h => by simp [pkT] at h
  | [_], h => by simp [pkT] at h
  | a :: b :: r, h => by
    rw [pkT] at h
    rcases List.mem_cons.1 h with rfl | h
    · exact ⟨a, by simp, b, by simp, rfl⟩
    · obtain ⟨x, hx, y, hy, e⟩ := pkT_mem2 h
      exact ⟨x, by simp [hx], y, by simp [hy], e⟩
theorem row_sy {c : List Th} {N : Nat} (h : ∀ z ∈ c, ∀ s ∈ z.2, s < N) : ∀ k, ∀ z ∈ rowT c k, ∀ s ∈ z.2, s < N
  | 0 => h
  | k + 1 => fun z hz s hs => by
    rcases List.mem_append.1 ((mrgT_perm _ _).mem_iff.1 hz) with h1 | h1
    · exact h z h1 s hs
    · obtain ⟨a, ha, b, hb, e⟩ := pkT_mem2 h1
      rw [e] at hs
      rcases List.mem_append.1 hs with hs | hs
      · exact row_sy h k a ha s hs
      · exact row_sy h k b hb s hs
theorem cn_sy (freq : List Int) : ∀ z ∈ cnT freq, ∀ s ∈ z.2, s < freq.length := fun z hz s hs => by
  have := (cnT_perm freq).mem_iff.1 hz
  rw [List.mem_map] at this
  obtain ⟨k, hk, rfl⟩ := this
  simp only [coin, List.mem_singleton] at hs
  subst hs
  exact (usd_mem.1 hk).1
/-- No thing of a row is too heavy. -/
theorem row_w {freq : List Int} (hf : ∀ x ∈ freq, 0 ≤ x ∧ x ≤ 1099511627776) (hn : freq.length ≤ 1024) {k : Nat} (hk : k < 24) : ∀ z ∈ rowT (cnT freq) k, 0 ≤ z.1 ∧ z.1 ≤ 4611686018427387903 := fun z hz => by
  have hs := cn_sum hf
  have h0 := (sumT_mem (cn_nn freq)).1
  have hm : ((k + 1 : Nat) : Int) * sumT (cnT freq) ≤ 24 * sumT (cnT freq) := Int.mul_le_mul_of_nonneg_right (by omega) h0
  have h1 := row_nn (cn_nn freq) k z hz
  have h2 := (sumT_mem (row_nn (cn_nn freq) k)).2 z hz
  have h3 := row_sum (cn_nn freq) k
  omega
theorem symT_app (l k : List Th) : symT (l ++ k) = symT l ++ symT k := by simp [symT]
theorem symT_mem {z : Th} {l : List Th} (h : z ∈ l) : z.2.length ≤ (symT l).length := by
  induction l with
  | nil => cases h
  | cons x r ih =>
    have e : (symT (x :: r)).length = x.2.length + (symT r).length := by simp [symT]
    rw [e]
    rcases List.mem_cons.1 h with rfl | h
    · omega
    · have := ih h; omega
theorem pkT_sl : ∀ l : List Th, (symT (pkT l)).length ≤ (symT l).length
  | [] => Nat.le_refl _
  | [x] => by simp [pkT, symT]
  | a :: b :: r => by
    have := pkT_sl r
    have e1 : (symT (pkT (a :: b :: r))).length = a.2.length + b.2.length + (symT (pkT r)).length := by simp [pkT, symT]; omega
    have e2 : (symT (a :: b :: r)).length = a.2.length + (b.2.length + (symT r).length) := by simp [symT]
    omega
theorem row_sl (c : List Th) : ∀ k : Nat, (symT (rowT c k)).length ≤ (k + 1) * (symT c).length
  | 0 => by rw [rowT]; omega
  | k + 1 => by
    have ih := row_sl c k
    have h1 := pkT_sl (rowT c k)
    have h2 : (symT (rowT c (k + 1))).length = (symT (c ++ pkT (rowT c k))).length := by
      unfold symT
      exact ((mrgT_perm c (pkT (rowT c k))).flatMap_right _).length_eq
    rw [h2, symT_app, List.length_append, Nat.succ_mul]
    omega
theorem sy_len {freq : List Int} (hn : freq.length ≤ 1024) {k : Nat} (hk : k < 24) : ∀ z ∈ rowT (cnT freq) k, z.2.length ≤ 24576 := fun z hz => by
  have h1 := symT_mem hz
  have h2 := row_sl (cnT freq) k
  have h3 : (symT (cnT freq)).length ≤ 1024 := by
    have := sym_take freq (cnT freq).length
    rw [List.take_length] at this
    rw [this, ← sg_len, List.take_length, sg_len, us_len]
    have : (usd freq).length ≤ (List.range freq.length).length := List.length_filter_le ..
    rw [List.length_range] at this
    omega
  have h4 : (k + 1) * (symT (cnT freq)).length ≤ 24 * (symT (cnT freq)).length := Nat.mul_le_mul_right _ (by omega)
  omega
theorem symT_snoc (l : List Th) (z : Th) : symT (l ++ [z]) = symT l ++ z.2 := by simp [symT]
theorem len_doc (freq : List Int) (m : Nat) : addS (List.replicate freq.length 0) (symT ((rowT (cnT freq) (m - 1)).take (2 * (cnT freq).length - 2))) = lenP freq m := by
  obtain ⟨_, _, _, _, h2⟩ := bp_all freq (m - 1)
  unfold lenP
  rw [cnT_len, ← h2, ← List.map_take]
  unfold symT
  rw [List.flatMap_map]
  rfl

end Go.Proofs.Ytgjnfajdejkkjaa.VG
