/-
  Bits: the law BitsBack; the steps of an argument.
-/
import Derived.Test.YtcmehcgefgjnhaaBg
import Derived.Test.YtcmehcgefgjnhaaOp
namespace Go.Proofs.Ytcmehcgefgjnhaa.VG
open Go
set_option linter.unusedSimpArgs false
set_option linter.unusedVariables false

structure Act where
  what : Int
  v : Nat
  n : Int
def Act.cells (a : Act) : List Value := [.int .i64 a.what, .int .u64 a.v, .int .i64 a.n]
def Act.fits (a : Act) : Prop := a.v < 18446744073709551616 ∧ -9223372036854775808 ≤ a.n ∧ a.n ≤ 9223372036854775807

theorem flat_get {α : Type} (f : α → List Value) (size : Nat) (hl : ∀ a, (f a).length = size) : ∀ (xs : List α) (i j : Nat), j < size → (xs.map f).flatten[i * size + j]? = xs[i]?.bind fun a => (f a)[j]?
  | [], i, j, h => by simp
  | a :: r, 0, j, h => by
    rw [List.map_cons, List.flatten_cons, Nat.zero_mul, Nat.zero_add, List.getElem?_append_left (by rw [hl]; exact h)]
    rfl
  | a :: r, i + 1, j, h => by
    rw [List.map_cons, List.flatten_cons, List.getElem?_append_right (by rw [hl, Nat.add_mul]; omega), hl, show (i + 1) * size + j - size = i * size + j by rw [Nat.add_mul]; omega, flat_get f size hl r i j h]
    rfl

theorem acts_of {H : Type} {enc : TypeId × Value → H} {w : World} {a : Option Addr} {len cap : Nat} (h : Sees enc Try.prog w 44 [.slice a len cap]) :
    ∃ xs : List Act, xs.length = len ∧ len ≤ maxLen ∧ Rd (fun b => b < w.heap.size) w (.slice a len cap) len (xs.map Act.cells).flatten ∧ ∀ x ∈ xs, x.fits := by
  have hc3 : Try.prog.cellsOf 49 = 3 := by kernel_rfl
  obtain ⟨oa, l, c, he, hm, ess, h1, h2, h3⟩ := h.slice (e := 49) (by kernel_rfl) (by rw [hc3]; omega)
  simp only [List.cons.injEq, Value.slice.injEq, and_true] at he
  obtain ⟨rfl, rfl, rfl⟩ := he
  obtain ⟨xs, rfl, h4⟩ := pick (f := Act.cells) (G := Act.fits) ess (fun es hes => by
    obtain ⟨_, hs⟩ := h2 es hes
    obtain ⟨hl, hf⟩ := hs.struct Try.underlying49
    have hc : Try.prog.cellsOf 49 = 3 := by kernel_rfl
    rw [hc] at hl
    match es, hl with
    | [x, y, z], _ =>
      have f0 := hf 0 _ rfl
      have f1 := hf 1 _ rfl
      have f2 := hf 2 _ rfl
      have c3 : Try.prog.cellsOf 3 = 1 := by kernel_rfl
      have cu : Try.prog.cellsOf 22 = 1 := by kernel_rfl
      simp [c3, cu] at f0 f1 f2
      obtain ⟨n0, e0, w0⟩ := f0.int (k := .i64) (by kernel_rfl)
      obtain ⟨n1, e1, w1⟩ := f1.int (k := .u64) (by kernel_rfl)
      obtain ⟨n2, e2, w2⟩ := f2.int (k := .i64) (by kernel_rfl)
      obtain ⟨m, rfl, hm⟩ := wf_u64 w1
      simp at e0 e1 e2
      exact ⟨⟨n0, m, n2⟩, by simp [Act.cells, e0, e1, e2], hm, wf_i64 w2⟩)
  exact ⟨xs, by simpa using h1, hm, h3, h4⟩

/-! ### Plain -/
def actK (a : Act) : Nat := (a.n % 64).toNat
theorem actK_lt (a : Act) : actK a < 64 := by unfold actK; omega
def actB (a : Act) : List Bool := if a.what = 1 then List.replicate (actK a) false ++ [true] else toB (lowN a.v (actK a)) (actK a)
theorem actB_len (a : Act) : (actB a).length = if a.what = 1 then actK a + 1 else actK a := by
  unfold actB; split <;> simp [toB_length]
theorem actB_le (a : Act) : (actB a).length ≤ 64 := by
  rw [actB_len]; have := actK_lt a; split <;> omega
def actsB (xs : List Act) : List Bool := xs.flatMap actB
theorem actsB_le (xs : List Act) : (actsB xs).length ≤ 64 * xs.length := by
  induction xs with
  | nil => simp [actsB]
  | cons x r ih => simp only [actsB, List.flatMap_cons, List.length_append, List.length_cons] at ih ⊢; have := actB_le x; omega
theorem actsB_take (xs : List Act) (i : Nat) (x : Act) (h : xs[i]? = some x) : actsB (xs.take (i + 1)) = actsB (xs.take i) ++ actB x := by
  rw [List.take_add_one, h]; simp [actsB]
theorem actsB_split (xs : List Act) (i : Nat) (x : Act) (h : xs[i]? = some x) : ∃ r, actsB xs = actsB (xs.take i) ++ actB x ++ r := by
  refine ⟨actsB (xs.drop (i + 1)), ?_⟩
  rw [← actsB_take xs i x h]
  unfold actsB
  rw [← List.flatMap_append, List.take_append_drop]

theorem same_one {a : Addr} {w w' : World} {u : Value} (h : w.cell? a = some u) (h' : w'.cell? a = some u) : SameCells a 1 w w' := by
  intro j hj
  obtain rfl : j = 0 := by omega
  rw [add_zero, h, h']

theorem rAlign_end (bs : List Bool) : rAlign (packB bs) bs.length 0 = (8 * (packB bs).length, 0) := by
  have hl := packB_length bs
  unfold rAlign
  rw [if_neg (by simp)]
  have h1 : (List.range (rEnd bs.length - bs.length)).any (fun j => rdb (packB bs) (bs.length + j)) = false := by
    rw [List.any_eq_false]
    intro j _
    rw [rdb_pack, List.getD_eq_getElem?_getD, List.getElem?_eq_none (by omega)]
    simp
  rw [h1]
  simp [rEnd, hl]
  omega

set_option maxHeartbeats 2000000 in
theorem back_c {w : World} {v : Value} {xs : List Act} (h : Rd (fun k => k < w.heap.size) w v xs.length (xs.map Act.cells).flatten) (hf : ∀ x ∈ xs, x.fits) (hlm : xs.length ≤ maxLen) :
    Calls Try.prog 8 [v].toArray w (Ret fun r w' => r = .bool true ∧ Mod none' w w') := by
  refine F_sound c8 (by simp [fc8]) ?_
  obtain ⟨cap, hv⟩ := h.is
  have hS : isS v := by rw [hv]; trivial
  have hL : slL v = xs.length := by rw [hv]; rfl
  simp only [fc8, s8]
  simp
  refine call_r _ known_c (by simp) ?_
  rintro r w0 ⟨rfl, M0⟩
  refine ⟨by simp, ?_⟩
  simp
  refine ite_r (t := false) (by simp) (fun h => by cases h) (fun _ => ?_)
  simp [hS, hL]
  by_cases hbig : 40 < xs.length
  · refine ite_r (t := true) (by simp; omega) (fun _ => ?_) (fun h => by cases h)
    simp
    exact M0
  refine ite_r (t := false) (by simp; omega) (fun h => by cases h) (fun _ => ?_)
  simp
  refine box_r (.agg #[.slice none 0 0, .int .i64 0]) (by simp) ?_
  intro a w1 ha ha1 hm1 _
  have A1 := newWr ha1
  have OA1 : Own w w1 (fun k => k = a) := .new M0 hm1 (fun k hk => by omega)
  refine ⟨by simp, ?_⟩
  simp
  have hact : ∀ i, i < xs.length → ∃ x, xs[i]? = some x ∧ x.fits ∧ bitw .and .i64 x.n 63 = (actK x : Nat) ∧ ∀ w', Mod none' w w' → (slA v).isSome = true ∧ w'.cell? ((slB v).add (i * 3)) = some (.int .i64 x.what) ∧ w'.cell? ((slB v).add (i * 3 + 1)) = some (.int .u64 x.v) ∧ w'.cell? ((slB v).add (i * 3 + 2)) = some (.int .i64 x.n) := by
    intro i hi
    have hx := List.getElem?_eq_getElem hi
    refine ⟨xs[i], hx, hf _ (List.getElem_mem _), ?_, fun w' hm => ?_⟩
    · have := and_mask xs[i].n 6 (by omega)
      rw [show ((2 ^ 6 - 1 : Nat) : Int) = 63 from rfl, show ((2 ^ 6 : Nat) : Int) = 64 from rfl] at this
      rw [this]
      unfold actK
      omega
    have h' := h.mod hm (fun _ _ h => h)
    have hg := flat_get Act.cells 3 (fun _ => rfl) xs i
    have g0 := hg 0 (by omega)
    have g1 := hg 1 (by omega)
    have g2 := hg 2 (by omega)
    rw [hx] at g0 g1 g2
    exact ⟨(h'.ptr (by have := (List.getElem?_eq_some_iff.1 g0).1; omega)).1, h'.cell _ _ g0, h'.cell _ _ g1, h'.cell _ _ g2⟩
  refine loop_w (fun m env' w' => ∃ i : Nat, i ≤ xs.length ∧ m = xs.length - i ∧ env' 0 = v ∧ env' 3 = .pointer (some ⟨a, 0, none⟩) ∧ env' 4 = .int .i64 (actsB (xs.take i)).length ∧ env' 5 = .int .i64 i ∧ ∃ F, Wr w' F a (actsB (xs.take i)) ∧ Own w w' F) xs.length
    (fun env' w' => env' 0 = v ∧ env' 3 = .pointer (some ⟨a, 0, none⟩) ∧ env' 4 = .int .i64 (actsB xs).length ∧ ∃ F, Wr w' F a (actsB xs) ∧ Own w w' F) ?_ ?_ ?_
  · exact ⟨0, by omega, by omega, by simp, by simp, by simp [actsB], by simp, _, A1, OA1⟩
  · rintro m env' w' ⟨i, hi, hm, e0, e3, e4, e5, F, hW, hO⟩
    simp [e0, e5, hS, hL]
    by_cases hlt : i < xs.length
    · refine ite_r (t := true) (by simp; omega) (fun _ => ?_) (fun h => by cases h)
      simp
      rw [wp_blk]
      obtain ⟨x, hx, hfx, hxn, hcx⟩ := hact i hlt
      obtain ⟨hp, c0, c1, c2⟩ := hcx w' hO.mod
      have hle := actsB_le (xs.take i)
      have htl : (xs.take i).length ≤ 40 := by rw [List.length_take]; omega
      have hk := actK_lt x
      have hw1 : IntKind.i64.wrap ((i : Int) + 1) = (i : Int) + 1 := wrap_i64 (by omega) (by omega)
      have htk := actsB_take xs i x hx
      simp [e0, e5, hS, hp, hL, add_add, c0, c1, c2, hxn]
      refine ⟨by omega, ?_⟩
      refine ite_cut (t := (x.what == 1)) (fun env2 w2 => env2 0 = v ∧ env2 3 = .pointer (some ⟨a, 0, none⟩) ∧ env2 4 = .int .i64 (actsB (xs.take (i + 1))).length ∧ env2 5 = .int .i64 i ∧ WrAfter w' F a (actsB (xs.take i) ++ actB x) w2) ?_ ?_ ?_ ?_
      · simp
      · intro hwh
        have hwh : x.what = 1 := by simpa using hwh
        have hB : actB x = List.replicate (actK x) false ++ [true] := by simp [actB, hwh]
        refine call_r _ (unary_yes hW (actK x) (by omega) (by omega)) (by simp [e3]) ?_
        rintro r w2 ⟨rfl, hA⟩
        rw [← hB] at hA
        have hln : (actsB (xs.take (i + 1))).length = (actsB (xs.take i)).length + actK x + 1 := by rw [htk, List.length_append, actB_len, if_pos hwh]; omega
        have hw2 : IntKind.i64.wrap (((actsB (xs.take i)).length : Int) + (actK x : Nat)) = ((actsB (xs.take i)).length : Int) + (actK x : Nat) := wrap_i64 (by omega) (by omega)
        have hw3 : IntKind.i64.wrap (((actsB (xs.take i)).length : Int) + (actK x : Nat) + 1) = ((actsB (xs.take i)).length : Int) + (actK x : Nat) + 1 := wrap_i64 (by omega) (by omega)
        refine ⟨by simp, ?_⟩
        simp [e4, hw2, hw3]
        exact ⟨e0, e3, by omega, e5, hA⟩
      · intro hwh
        have hwh : ¬ x.what = 1 := by simpa using hwh
        have hB : actB x = toB (lowN x.v (actK x)) (actK x) := by simp [actB, hwh]
        simp [e0, e5, hS, hp, hL, add_add, c0, c1, c2, hxn]
        refine ⟨by omega, ?_⟩
        refine call_r _ (low_c x.v (actK x) hfx.1 (by omega)) (by simp) ?_
        rintro r _ ⟨rfl, rfl⟩
        refine ⟨by simp, ?_⟩
        refine call_r _ (put_yes hW (lowN x.v (actK x)) (actK x) (by omega) (lowN_lt _ _ hfx.1) (by omega)) (by simp [e3]) ?_
        rintro r w2 ⟨rfl, hA⟩
        rw [← hB] at hA
        have hln : (actsB (xs.take (i + 1))).length = (actsB (xs.take i)).length + actK x := by rw [htk, List.length_append, actB_len, if_neg hwh]
        have hw2 : IntKind.i64.wrap (((actsB (xs.take i)).length : Int) + (actK x : Nat)) = ((actsB (xs.take i)).length : Int) + (actK x : Nat) := wrap_i64 (by omega) (by omega)
        refine ⟨by simp, ?_⟩
        simp [e4, hw2]
        exact ⟨e0, e3, by omega, e5, hA⟩
      · rintro env2 w2 ⟨d0, d3, d4, d5, F2, W2, M2, hF2⟩
        simp [d5, hw1]
        refine ⟨xs.length - (i + 1), by omega, i + 1, by omega, rfl, d0, d3, d4, by omega, F2, ?_, hO.step M2 (fun _ h => h) hF2⟩
        rw [htk]
        exact W2
    · obtain rfl : i = xs.length := by omega
      refine ite_r (t := false) (by simp) (fun h => by cases h) (fun _ => ?_)
      simp
      rw [List.take_length] at hW e4
      exact ⟨e0, e3, e4, F, hW, hO⟩
  · rintro env' w' ⟨e0, e3, e4, F, hW, hO⟩
    have hle := actsB_le xs
    have hpl := packB_length (actsB xs)
    refine call_r _ (len_c hW) (by simp [e3]) ?_
    rintro r _ ⟨rfl, rfl⟩
    refine ⟨by simp, ?_⟩
    simp [e4]
    refine ifg_r (t := false) (by simp) (fun _ => ?_) (fun h => (h rfl).elim)
    refine call_r _ (bytes_c hW (by omega)) (by simp [e3]) ?_
    rintro va w2 ha2
    have W2 := hW.mod ha2.2 (fun _ _ h => h)
    have O2 := hO.step ha2.2 (fun _ h => h.elim) (fun k hk => .inl hk)
    obtain ⟨cap2, hva⟩ := ha2.rd.is
    have hSa : isS va := by rw [hva]; trivial
    have hLa : slL va = (packB (actsB xs)).length := by rw [hva]; rfl
    have hw1 : IntKind.i64.wrap (((actsB xs).length : Int) + 7) = ((actsB xs).length : Int) + 7 := wrap_i64 (by omega) (by omega)
    have hw2 : (((actsB xs).length : Int) + 7).tdiv 8 = (((actsB xs).length : Int) + 7) / 8 := tdiv_nn (by omega)
    have hw3 : IntKind.i64.wrap ((((actsB xs).length : Int) + 7) / 8) = (((actsB xs).length : Int) + 7) / 8 := wrap_i64 (by omega) (by omega)
    have hq : ((packB (actsB xs)).length : Int) = (((actsB xs).length : Int) + 7) / 8 := by omega
    refine ⟨by simp, ?_⟩
    simp [e4, hSa, hLa, hw1, hw2, hw3, hq]
    refine ite_r (t := false) (by simp) (fun h => by cases h) (fun _ => ?_)
    refine call_r _ (bytes_c W2 (by omega)) (by simp [e3]) ?_
    rintro vb w3 hb3
    have O3 := O2.step hb3.2 (fun _ h => h.elim) (fun k hk => .inl hk)
    refine ⟨by simp, ?_⟩
    simp
    refine call_r _ (new_c hb3.rd (packB_fits _) (by omega)) (by simp) ?_
    rintro r w4 ⟨b, G, rfl, R4, M4, hG⟩
    have O4 : Own w w4 G := .new O3.mod M4 hG
    refine ⟨by simp, ?_⟩
    simp
    refine ite_r (t := false) (by simp) (fun h => by cases h) (fun _ => ?_)
    simp
    refine loop_w (fun m env' w' => ∃ i : Nat, i ≤ xs.length ∧ m = xs.length - i ∧ env' 0 = v ∧ env' 7 = .pointer (some ⟨b, 0, none⟩) ∧ env' 8 = .int .i64 i ∧ Rr w' G b (packB (actsB xs)) (actsB (xs.take i)).length 0 ∧ Own w w' G) xs.length
      (fun env' w' => env' 7 = .pointer (some ⟨b, 0, none⟩) ∧ Rr w' G b (packB (actsB xs)) (actsB xs).length 0 ∧ Own w w' G) ?_ ?_ ?_
    · exact ⟨0, by omega, by omega, by simp [e0], by simp, by simp, by simpa [actsB] using R4, O4⟩
    · rintro m env' w' ⟨i, hi, hm, e0, e7, e8, R, O⟩
      simp [e0, e8, hS, hL]
      by_cases hlt : i < xs.length
      · refine ite_r (t := true) (by simp; omega) (fun _ => ?_) (fun h => by cases h)
        simp
        rw [wp_blk]
        obtain ⟨x, hx, hfx, hxn, hcx⟩ := hact i hlt
        obtain ⟨hp, c0, c1, c2⟩ := hcx w' O.mod
        have hk := actK_lt x
        have hw1 : IntKind.i64.wrap ((i : Int) + 1) = (i : Int) + 1 := wrap_i64 (by omega) (by omega)
        have htk := actsB_take xs i x hx
        obtain ⟨C, hC⟩ := actsB_split xs i x hx
        simp [e0, e8, hS, hp, hL, add_add, c0, c1, c2, hxn]
        refine ⟨by omega, ?_⟩
        refine ite_cut (t := (x.what == 1)) (fun env2 w2 => env2 0 = v ∧ env2 7 = .pointer (some ⟨b, 0, none⟩) ∧ env2 8 = .int .i64 i ∧ Rr w2 G b (packB (actsB xs)) (actsB (xs.take (i + 1))).length 0 ∧ Own w w2 G) ?_ ?_ ?_ ?_
        · simp
        · intro hwh
          have hwh : x.what = 1 := by simpa using hwh
          have hB : actB x = List.replicate (actK x) false ++ [true] := by simp [actB, hwh]
          refine call_r _ (runary_c R 63) (by simp [e7]) ?_
          have hr : rUnary (packB (actsB xs)) (actsB (xs.take i)).length 0 63 = (actK x, (actsB (xs.take i)).length + actK x + 1, 0) := by
            rw [hC, hB]
            exact rUnary_pack _ _ _ _ (by omega)
          have hln : (actsB (xs.take (i + 1))).length = (actsB (xs.take i)).length + actK x + 1 := by rw [htk, List.length_append, actB_len, if_pos hwh]; omega
          rw [hr, ← hln]
          rintro r w2 ⟨rfl, R2, M2⟩
          have O2 := O.step M2 (fun k h => h ▸ R.me) (fun k hk => .inl hk)
          refine ⟨by simp, ?_⟩
          simp
          refine ite_r (t := false) (by simp) (fun h => by cases h) (fun _ => ?_)
          simp
          exact ⟨e0, e7, e8, R2, O2⟩
        · intro hwh
          have hwh : ¬ x.what = 1 := by simpa using hwh
          have hB : actB x = toB (lowN x.v (actK x)) (actK x) := by simp [actB, hwh]
          simp [e0, e8, hS, hp, hL, add_add, c0, c1, c2, hxn]
          refine ⟨by omega, ?_⟩
          have hmd : Mod none' w' w'.drew := (Mod.refl _ _).drew
          have O' := O.step hmd (fun _ h => h.elim) (fun k hk => .inl hk)
          have R' := R.mod hmd (fun _ _ h => h)
          refine call_r _ (get_c R' (actK x)) (by simp [e7]) ?_
          have hr : rGet (packB (actsB xs)) (actsB (xs.take i)).length 0 (actK x) = (lowN x.v (actK x), (actsB (xs.take i)).length + actK x, 0) := by
            have := rGet_pack (actsB (xs.take i)) (toB (lowN x.v (actK x)) (actK x)) C (by rw [toB_length]; omega)
            rw [toB_length, ofB_toB, Nat.mod_eq_of_lt (lowN_lt _ _ hfx.1)] at this
            rw [hC, hB]
            exact this
          have hln : (actsB (xs.take (i + 1))).length = (actsB (xs.take i)).length + actK x := by rw [htk, List.length_append, actB_len, if_neg hwh]
          rw [hr, ← hln]
          rintro r w2 ⟨rfl, R2, M2⟩
          have O2 := O'.step M2 (fun k h => h ▸ R.me) (fun k hk => .inl hk)
          obtain ⟨_, _, d1, _⟩ := hcx w2 O2.mod
          refine ⟨?_, ?_⟩
          · simp [promOk, e0, e8, hS, hp, hL, add_add]
            exact same_one c1 d1
          refine call_r _ (low_c x.v (actK x) hfx.1 (by omega)) (by simp) ?_
          rintro r _ ⟨rfl, rfl⟩
          refine ⟨by simp, ?_⟩
          simp
          refine ite_r (t := false) (by simp) (fun h => by cases h) (fun _ => ?_)
          simp
          exact ⟨e0, e7, e8, R2, O2⟩
        · rintro env2 w2 ⟨d0, d7, d8, R2, O2⟩
          simp [d8, hw1]
          exact ⟨xs.length - (i + 1), by omega, i + 1, by omega, rfl, d0, d7, by omega, R2, O2⟩
      · obtain rfl : i = xs.length := by omega
        refine ite_r (t := false) (by simp) (fun h => by cases h) (fun _ => ?_)
        simp
        rw [List.take_length] at R
        exact ⟨e7, R, O⟩
    · rintro env' w' ⟨e7, R, O⟩
      refine call_r _ (ralign_c R) (by simp [e7]) ?_
      rw [rAlign_end]
      rintro r w5 ⟨rfl, R5, M5⟩
      have O5 := O.step M5 (fun k h => h ▸ R.me) (fun k hk => .inl hk)
      refine ⟨by simp, ?_⟩
      simp
      refine call_r _ (err_c R5) (by simp [e7]) ?_
      rintro r _ ⟨rfl, rfl⟩
      refine ⟨by simp, ?_⟩
      simp
      refine ifg_r (t := true) (by simp) (fun _ => ?_) (fun h => (h rfl).elim)
      refine call_r _ (left_c R5) (by simp [e7]) ?_
      rintro r w6 ⟨rfl, M6⟩
      refine ⟨by simp, ?_⟩
      simp
      exact O5.mod.tr M6

end Go.Proofs.Ytcmehcgefgjnhaa.VG
