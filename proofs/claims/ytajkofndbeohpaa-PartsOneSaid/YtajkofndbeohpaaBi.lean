/-
  Bits: the document's writer (kinoraref2): what each of its calls comes to.
-/
import Derived.Test.YtajkofndbeohpaaBh
namespace Go.Proofs.Ytajkofndbeohpaa.VG
open Go
set_option linter.unusedSimpArgs false
set_option linter.unusedVariables false

/-- The document's writer at block b holds the bits bs, a byte each. -/
structure Xr (w : World) (F : Nat → Prop) (b : Nat) (bs : List Bool) : Prop where
  lt : ∀ k, F k → k < w.heap.size
  me : F b
  is : ∃ s el, w.heap[b]? = some (.cells #[s] el (0, 0)) ∧ w.ownsRow 0 5 1 s bs.length (bytesV (bs.map Bool.toNat)) ∧ ∀ k, s.ownBlock = some k → F k ∧ k ≠ b

theorem Xr.mod {w w' : World} {F S : Nat → Prop} {b : Nat} {bs : List Bool} (h : Xr w F b bs) (m : Mod S w w') (hd : ∀ k, F k → ¬ S k) : Xr w' F b bs := by
  obtain ⟨s, el, h1, h2, h3⟩ := h.is
  exact ⟨fun k hk => Nat.lt_of_lt_of_le (h.lt k hk) m.size, h.me, s, el, m.heap h1 (hd b h.me), m.owns h2 (fun k hk => hd k (h3 k hk).1), h3⟩

def XrAfter (w : World) (F : Nat → Prop) (b : Nat) (bs : List Bool) (w' : World) : Prop :=
  ∃ F', Xr w' F' b bs ∧ Mod F w w' ∧ ∀ k, F' k → F k ∨ w.heap.size ≤ k
theorem XrAfter.refl {w : World} {F : Nat → Prop} {b : Nat} {bs : List Bool} (h : Xr w F b bs) : XrAfter w F b bs w := ⟨F, h, Mod.refl _ _, fun _ h => .inl h⟩
theorem XrAfter.step {w w1 w2 : World} {F F1 : Nat → Prop} {b : Nat} {cs : List Bool} (hm : Mod F w w1) (hF : ∀ k, F1 k → F k ∨ w.heap.size ≤ k) (h : XrAfter w1 F1 b cs w2) : XrAfter w F b cs w2 := by
  obtain ⟨F2, h1, h2, h3⟩ := h
  refine ⟨F2, h1, hm.trans h2 (fun k hk h => (hF k h).resolve_right (by omega)), fun k hk => ?_⟩
  rcases h3 k hk with h | h
  · exact hF k h
  · exact .inr (Nat.le_trans hm.size h)

theorem newXr {w' : World} {b : Nat} {el : TypeId} (hb : w'.heap[b]? = some (.cells #[.slice none 0 0] el (0, 0))) : Xr w' (fun k => k = b) b [] :=
  ⟨fun k hk => hk ▸ heap_lt hb, rfl, _, el, by simpa using hb, World.ownsRow_nil _ _ _ _, fun k h => by simp [Value.ownBlock] at h⟩

/-- One bit more: the element is built, appended, stored. -/
theorem xbit_r {t1 t2 s : Nat} {o : Operand} {ty1 : TypeId} {m1 : List (Nat × E)} {k : S} {Q : Exit → Env → World → Prop} {env : Env} {w : World} {F : Nat → Prop} {b : Nat} {bs : List Bool} (x : Bool) {sv : Value} {el : TypeId}
    (hW : Xr w F b bs) (hb : w.heap[b]? = some (.cells #[sv] el (0, 0))) (hs : w.ownsRow 0 5 1 sv bs.length (bytesV (bs.map Bool.toNat))) (hF : ∀ k, sv.ownBlock = some k → F k ∧ k ≠ b)
    (e0 : env 0 = .pointer (some ⟨b, 0, none⟩)) (es : env s = sv) (ho : rhoOf m1 env w o = .int .u8 x.toNat) (hlen : bs.length < 1099511627776) (n1 : s ≠ t1) (n2 : t1 ≠ 0) (n3 : t2 ≠ 0)
    (hk : ∀ v1 v2 w2, XrAfter w F b (bs ++ [x]) w2 → k.wp Try.prog Q (upd (upd env t1 v1) t2 v2) w2) :
    (S.op (some t1) (.buildSlice 33 1 #[(0, o)]) ty1 m1 [] (.op (some t2) (.call ⟨(.builtin .append), #[(.tmp s), (.tmp t1)], #[33, 33]⟩) 33 [(s, (.vr s)), (t1, (.vr t1))] []
      (.chk (.un .nck (.vr 0)) (.chk (.un (.fa 0) (.un .nck (.vr 0))) (.st 1 (.un (.fa 0) (.un .nck (.vr 0))) (.vr t2) [] k))))).wp Try.prog Q env w := by
  refine app1_r slT8 hs (u := .int .u8 x.toNat) (by simp) (by omega) (by omega) (by unfold maxLen; omega) ho (fun v' w' => by simp [n1, es]) (fun v' w' => by simp [n1]) (by simp) ?_
  intro vb v' w1 w' _ hs' hmod hnew _
  have hbs : sv.ownBlock ≠ some b := fun e => (hF b e).2 rfl
  have hb' := hmod.heap hb hbs
  have hvb : ∀ k, v'.ownBlock = some k → (F k ∨ w.heap.size ≤ k) ∧ k ≠ b := fun k hk => by
    rcases hnew k hk with h1 | h1
    · exact ⟨.inl (hF k h1).1, (hF k h1).2⟩
    · exact ⟨.inr h1, by have := hW.lt b hW.me; omega⟩
  have q1 : ¬ 0 = t2 := fun e => n3 e.symm
  have q2 : ¬ 0 = t1 := fun e => n2 e.symm
  refine ⟨by simp, ?_⟩
  simp [q1, q2, e0]
  refine st_r (b := b) (o := 0) (v := v') (by simp [q1, q2, e0]) (by simp) hb' (by simp) (own_one hs') ?_
  intro w2 hb2 hm2 hsz2
  refine ⟨by simp, ?_⟩
  refine hk _ _ _ ⟨fun k => k = b ∨ v'.ownBlock = some k, ⟨?_, .inl rfl, v', el, by simpa using hb2, ?_, fun k hk => ⟨.inr hk, (hvb k hk).2⟩⟩, (hmod.mono fun k _ hk => (hF k hk).1).trans hm2 (fun k _ hk => hk ▸ hW.me), ?_⟩
  · rintro k (rfl | hk)
    · exact heap_lt hb2
    · rw [hsz2]; exact own_lt hs' hk
  · have := hm2.owns hs' (fun k hk e => (hvb k hk).2 e)
    simpa [bytesV] using this
  · rintro k (rfl | hk)
    · exact .inl hW.me
    · exact (hvb k hk).1

set_option maxHeartbeats 1000000 in
theorem xput_yes {w : World} {F : Nat → Prop} {b : Nat} {bs : List Bool} (h : Xr w F b bs) (v n : Nat) (hn : n ≤ 64) (hv : v < 2 ^ n) (hlen : bs.length + n < 1099511627776) :
    Calls Try.prog 50 [.pointer (some ⟨b, 0, none⟩), .int .u64 v, .int .i64 n].toArray w (Ret fun r w' => r = .int .i64 0 ∧ XrAfter w F b (bs ++ toB v n) w') := by
  refine F_sound c50 (by simp [fc50]) ?_
  have hv64 := lt_of_pow hv hn
  have hs0 := shr_small v n hv hn
  have hw1 : IntKind.i64.wrap ((n : Int) - 1) = (n : Int) - 1 := wrap_i64 (by omega) (by omega)
  have hw0 : IntKind.u64.wrap (n : Int) = n := wrap_nat_u64 (by omega)
  simp [fc50, s50, hw0]
  refine ite_r (t := false) ?_ (fun h => by cases h) (fun _ => ?_)
  · simp [hw0, hs0]; omega
  simp [hw1]
  refine loop_r (fun m env' w' => m ≤ n ∧ env' 0 = .pointer (some ⟨b, 0, none⟩) ∧ env' 1 = .int .u64 v ∧ env' 7 = .int .i64 ((m : Int) - 1) ∧ XrAfter w F b (bs ++ (toB v n).take (n - m)) w') n ?_ ?_
  · refine ⟨Nat.le_refl _, by simp, by simp, by simp, ?_⟩
    simpa using XrAfter.refl h
  · rintro m env' w' ⟨hm, e0, e1, e7, F1, hW, hM, hF⟩
    simp [e7]
    by_cases h0 : m = 0
    · subst h0
      refine ite_r (t := false) (by simp) (fun h => by cases h) (fun _ => ?_)
      simp
      have : (toB v n).take n = toB v n := List.take_of_length_le (by rw [toB_length]; omega)
      rw [Nat.sub_zero, this] at hW
      exact ⟨F1, hW, hM, hF⟩
    · refine ite_r (t := true) (by simp; omega) (fun _ => ?_) (fun h => by cases h)
      simp
      rw [wp_blk]
      have hb1 := bitarg v (m - 1) hv64 (by omega)
      have hc : ((m : Int) - 1) = ((m - 1 : Nat) : Int) := by omega
      have hw2 : IntKind.i64.wrap ((m : Int) - 1 - 1) = (m : Int) - 1 - 1 := wrap_i64 (by omega) (by omega)
      have hw3 : IntKind.u64.wrap ((m - 1 : Nat) : Int) = ((m - 1 : Nat) : Int) := wrap_nat_u64 (by omega)
      obtain ⟨s, el, hb, hs, hFs⟩ := hW.is
      have hc0 := cell_blk hb 0
      simp [e0, e1, e7, hc0, hc, hw3]
      refine xbit_r (v.testBit (m - 1)) hW hb hs hFs (by simp [e0]) (by simp) (by simp [e1, e7, hc, hw3, hb1]) (by simp [toB_length]; omega) (by decide) (by decide) (by decide) ?_
      intro v1 v2 w2 hA
      simp [e7, hw2]
      refine ⟨m - 1, by omega, by omega, by simp [e0], by simp [e1], by omega, ?_⟩
      have := XrAfter.step hM hF hA
      rwa [List.append_assoc, ← toB_take v n m (by omega) hm] at this

theorem xput_no {w : World} {b : Nat} (v : Nat) (n : Int) (hv : v < 18446744073709551616) (hn1 : n ≤ 9223372036854775807) (hno : ¬ (0 ≤ n ∧ n ≤ 64 ∧ v < 2 ^ n.toNat)) :
    Calls Try.prog 50 [.pointer (some ⟨b, 0, none⟩), .int .u64 v, .int .i64 n].toArray w (Ret fun r w' => r = .int .i64 1 ∧ w' = w) := by
  refine F_sound c50 (by simp [fc50]) ?_
  simp [fc50, s50]
  have hw0 : 0 ≤ n → IntKind.u64.wrap n = n := fun h => wrap_u64 h (by omega)
  refine ⟨?_, ?_⟩
  · intro _
    obtain ⟨_, _, h, _⟩ := wrap_u64_is n
    exact h
  refine ite_r (t := true) ?_ (fun _ => ?_) (fun h => by cases h)
  · simp
    by_cases h1 : n < 0
    · exact .inl (.inl h1)
    · by_cases h2 : 64 < n
      · exact .inl (.inr h2)
      · refine .inr ?_
        have h3 : 2 ^ n.toNat ≤ v := by omega
        have h4 : n < 64 := by
          have : n.toNat < 64 := by
            rcases Nat.lt_or_ge n.toNat 64 with h | h
            · exact h
            · have := Nat.pow_le_pow_right (n := 2) (by omega) h
              omega
          omega
        rw [hw0 (by omega), show n = (n.toNat : Int) by omega, shr_nat _ _ _ (by simp [IntKind.bits]; omega)]
        have : 0 < v / 2 ^ n.toNat := Nat.div_pos h3 (Nat.two_pow_pos _)
        omega
  · simp

set_option maxHeartbeats 1000000 in
theorem xunary_yes {w : World} {F : Nat → Prop} {b : Nat} {bs : List Bool} (h : Xr w F b bs) (n : Nat) (hn : n ≤ 4096) (hlen : bs.length + n + 1 < 1099511627776) :
    Calls Try.prog 73 [.pointer (some ⟨b, 0, none⟩), .int .i64 n].toArray w (Ret fun r w' => r = .int .i64 0 ∧ XrAfter w F b (bs ++ (List.replicate n false ++ [true])) w') := by
  refine F_sound c73 (by simp [fc73]) ?_
  simp [fc73, s73]
  refine ite_r (t := false) (by simp; omega) (fun h => by cases h) (fun _ => ?_)
  simp
  refine loop_w (fun m env' w' => ∃ i : Nat, i ≤ n ∧ m = n - i ∧ env' 0 = .pointer (some ⟨b, 0, none⟩) ∧ env' 1 = .int .i64 n ∧ env' 5 = .int .i64 i ∧ XrAfter w F b (bs ++ List.replicate i false) w') n
    (fun env' w' => env' 0 = .pointer (some ⟨b, 0, none⟩) ∧ XrAfter w F b (bs ++ List.replicate n false) w') ?_ ?_ ?_
  · exact ⟨0, by omega, by omega, by simp, by simp, by simp, by simpa using XrAfter.refl h⟩
  · rintro m env' w' ⟨i, hi, hm, e0, e1, e5, hA⟩
    simp [e1, e5]
    by_cases hlt : i < n
    · refine ite_r (t := true) (by simp; omega) (fun _ => ?_) (fun h => by cases h)
      simp
      rw [wp_blk]
      obtain ⟨F1, hW, hM, hF⟩ := hA
      have hw2 : IntKind.i64.wrap ((i : Int) + 1) = (i : Int) + 1 := wrap_i64 (by omega) (by omega)
      obtain ⟨s, el, hb, hs, hFs⟩ := hW.is
      have hc0 := cell_blk hb 0
      simp [e0, hc0]
      refine xbit_r false hW hb hs hFs (by simp [e0]) (by simp) (by simp) (by simp; omega) (by decide) (by decide) (by decide) ?_
      intro v1 v2 w2 hA
      simp [e5, hw2]
      refine ⟨n - (i + 1), by omega, i + 1, by omega, rfl, by simp [e0], by simp [e1], by omega, ?_⟩
      have := XrAfter.step hM hF hA
      rwa [List.append_assoc, ← List.replicate_succ'] at this
    · obtain rfl : i = n := by omega
      refine ite_r (t := false) (by simp) (fun h => by cases h) (fun _ => ?_)
      simp [e0]
      exact hA
  · rintro env' w' ⟨e0, F1, hW, hM, hF⟩
    obtain ⟨s, el, hb, hs, hFs⟩ := hW.is
    have hc0 := cell_blk hb 0
    simp [e0, hc0]
    refine xbit_r true hW hb hs hFs (by simp [e0]) (by simp) (by simp) (by simp; omega) (by decide) (by decide) (by decide) ?_
    intro v1 v2 w2 hA
    simp
    have := XrAfter.step hM hF hA
    rwa [List.append_assoc] at this

theorem xunary_no {w : World} {b : Nat} (n : Int) (hno : n < 0 ∨ 4096 < n) :
    Calls Try.prog 73 [.pointer (some ⟨b, 0, none⟩), .int .i64 n].toArray w (Ret fun r w' => r = .int .i64 1 ∧ w' = w) := by
  refine F_sound c73 (by simp [fc73]) ?_
  simp [fc73, s73]
  refine ite_r (t := true) (by simp; omega) (fun _ => ?_) (fun h => by cases h)
  simp

theorem Xr.sl {w : World} {F : Nat → Prop} {b : Nat} {bs : List Bool} (h : Xr w F b bs) : ∃ s, w.cell? ⟨b, 0, none⟩ = some s ∧ isS s ∧ slL s = bs.length := by
  obtain ⟨s, el, hb, hs, hFs⟩ := h.is
  obtain ⟨cap, hv⟩ := (Rd.of_owns hs).is
  exact ⟨s, by simpa using cell_blk hb 0, by rw [hv]; trivial, by rw [hv]; rfl⟩

theorem xlen_c {w : World} {F : Nat → Prop} {b : Nat} {bs : List Bool} (h : Xr w F b bs) :
    Calls Try.prog 24 [.pointer (some ⟨b, 0, none⟩)].toArray w (Ret fun r w' => r = .int .i64 bs.length ∧ w' = w) := by
  refine F_sound c24 (by simp [fc24]) ?_
  obtain ⟨s, hc, hS, hL⟩ := h.sl
  simp [fc24, s24, hc, hS, hL]

/-- The bytes so far, as many as there will be. -/
def packTo (N : Nat) (bs : List Bool) : List Nat := (List.range N).map (byteAt bs)
theorem packTo_len (N : Nat) (bs : List Bool) : (packTo N bs).length = N := by simp [packTo]
theorem packTo_snoc (N : Nat) (bs : List Bool) (x : Bool) (h : bs.length / 8 < N) : packTo N (bs ++ [x]) = (packTo N bs).set (bs.length / 8) (byteAt (bs ++ [x]) (bs.length / 8)) := by
  apply List.ext_getElem
  · simp [packTo]
  · intro j h1 h2
    have hj : j < N := by simpa [packTo] using h1
    rw [List.getElem_set]
    split
    · rename_i h; subst h; simp [packTo]
    · rename_i h
      simp only [packTo, List.getElem_map, List.getElem_range]
      exact byteAt_snoc_other bs x j (fun e => h e.symm)
theorem packTo_nil (N : Nat) : packTo N [] = List.replicate N 0 := by
  apply List.ext_getElem
  · simp [packTo]
  · intro j h1 h2; simp [packTo, byteAt, ofB]

theorem zero8 {z : Value} (h : ∃ i, Try.prog.info? 5 = some i ∧ i.zero = some z) : z = .int .u8 0 := by
  obtain ⟨i, hi, hz⟩ := h
  obtain ⟨j, h3, h4⟩ : ∃ j, Try.prog.info? 5 = some j ∧ j.zero = some (.int .u8 0) := ⟨_, rfl, rfl⟩
  rw [h3] at hi
  cases hi
  rw [h4] at hz
  cases hz
  rfl

set_option maxHeartbeats 1000000 in
theorem xbytes_c {w : World} {F : Nat → Prop} {b : Nat} {bs : List Bool} (h : Xr w F b bs) (hlen : bs.length < 1099511627776) :
    Calls Try.prog 27 [.pointer (some ⟨b, 0, none⟩)].toArray w (Ret fun r w' => Fresh w w' r (packB bs)) := by
  refine F_sound c27 (by simp [fc27]) ?_
  obtain ⟨s, hc, hS, hL⟩ := h.sl
  have hw1 : IntKind.i64.wrap ((bs.length : Int) + 7) = (bs.length : Int) + 7 := wrap_i64 (by omega) (by omega)
  have hw2 : ((bs.length : Int) + 7).tdiv 8 = ((bs.length : Int) + 7) / 8 := tdiv_nn (by omega)
  have hw3 : IntKind.i64.wrap (((bs.length : Int) + 7) / 8) = ((bs.length : Int) + 7) / 8 := wrap_i64 (by omega) (by omega)
  have hpl := packB_length bs
  generalize hN : (bs.length + 7) / 8 = N at *
  have hNi : ((bs.length : Int) + 7) / 8 = (N : Int) := by omega
  have hNw : IntKind.i64.wrap (N : Int) = (N : Int) := wrap_i64 (by omega) (by omega)
  simp [fc27, s27, hc, hS, hL]
  refine mk_r slT8 (kl := .i64) (kc := .i64) (l := (N : Int)) (c := (N : Int)) (by simp [hS, hL, hw1, hw2, hNw, hNi]) (by simp [hS, hL, hw1, hw2, hNw, hNi]) (by omega) (by omega) (by omega) (by omega) ?_
  intro g w1 z hg hz hg1 hm1 hsz1
  obtain rfl := zero8 hz
  have hX1 := h.mod hm1 (fun _ _ h => h)
  have hgb : b ≠ g := fun e => by have := h.lt b h.me; omega
  refine ⟨by simp, ?_⟩
  simp
  have hcells0 : madeCells (Value.int .u8 0).cells (N * 1) = (bytesV (packTo N [])).toArray := by
    rw [packTo_nil]
    apply Array.ext
    · simp [size_madeCells, bytesV]
    · intro j h1 h2
      simp [madeCells, bytesV, Value.cells, Nat.mod_one]
  simp only [Int.toNat_natCast] at hg1
  rw [hcells0] at hg1
  refine loop_w (fun m env' w' => ∃ i : Nat, i ≤ bs.length ∧ m = bs.length - i ∧ env' 0 = .pointer (some ⟨b, 0, none⟩) ∧ env' 3 = .slice (some ⟨g, 0, none⟩) N N ∧ env' 4 = .int .i64 i ∧ w'.heap[g]? = some (.cells (bytesV (packTo N (bs.take i))).toArray 5 (0, 0)) ∧ Mod (fun k => k = g) w1 w') bs.length
    (fun env' w' => env' 3 = .slice (some ⟨g, 0, none⟩) N N ∧ w'.heap[g]? = some (.cells (bytesV (packTo N bs)).toArray 5 (0, 0)) ∧ Mod (fun k => k = g) w1 w') ?_ ?_ ?_
  · exact ⟨0, by omega, by omega, by simp, by simp, by simp, by simpa using hg1, Mod.refl _ _⟩
  · rintro m env' w' ⟨i, hi, hm, e0, e3, e4, hgi, hM⟩
    have hX := hX1.mod hM (fun k hk e => by have := h.lt k hk; omega)
    obtain ⟨sv, el, hbx, hsx, hFx⟩ := hX.is
    have hcx := cell_blk hbx 0
    have hrd := Rd.of_owns hsx
    obtain ⟨cap, hsv⟩ := hrd.is
    have hSx : isS sv := by rw [hsv]; trivial
    have hLx : slL sv = bs.length := by rw [hsv]; rfl
    simp [e0, e4, hcx, hSx, hLx]
    by_cases hlt : i < bs.length
    · refine ite_r (t := true) (by simp; omega) (fun _ => ?_) (fun h => by cases h)
      simp
      rw [wp_blk]
      have hbit : w'.cell? ((slB sv).add i) = some (.int .u8 (bs[i].toNat : Nat)) := hrd.cell i _ (by simp [bytesV, hlt])
      have hp := (hrd.ptr (by simp [bytesV]; omega)).1
      have hgc := cell_blk hgi (i / 8)
      have hval : (bytesV (packTo N (bs.take i))).toArray[i / 8]? = some (.int .u8 (byteAt (bs.take i) (i / 8) : Nat)) := by
        simp [bytesV, packTo, show i / 8 < N by omega]
      rw [hval] at hgc
      have hq1 : (i : Int).tdiv 8 = (i : Int) / 8 := tdiv_nn (by omega)
      have hq2 : IntKind.i64.wrap ((i : Int) / 8) = (i : Int) / 8 := wrap_i64 (by omega) (by omega)
      have hq3 : ((i : Int) / 8).toNat = i / 8 := by omega
      have hq4 : (i : Int).tmod 8 = (i : Int) % 8 := tmod_nn (by omega)
      have hq5 : IntKind.i64.wrap (7 - (i : Int) % 8) = 7 - (i : Int) % 8 := wrap_i64 (by omega) (by omega)
      have hq6 : IntKind.u64.wrap (7 - (i : Int) % 8) = ((7 - i % 8 : Nat) : Int) := by rw [wrap_u64 (by omega) (by omega)]; omega
      have hq7 : shl .u8 ((bs[i].toNat : Nat) : Int) ((7 - i % 8 : Nat) : Int) = ((bs[i].toNat * 2 ^ (7 - i % 8) : Nat) : Int) := by
        rw [shl_nat _ _ _ (by simp [IntKind.bits]; omega)]
        apply wrap_nat_u8
        have h7 : 2 ^ (7 - i % 8) ≤ 2 ^ 7 := Nat.pow_le_pow_right (by omega) (by omega)
        cases bs[i] <;> simp <;> omega
      have hxl : bs[i].toNat * 2 ^ (7 - i % 8) < 256 := by
        have h7 : 2 ^ (7 - i % 8) ≤ 2 ^ 7 := Nat.pow_le_pow_right (by omega) (by omega)
        cases bs[i] <;> simp <;> omega
      have htl : (bs.take i).length = i := by rw [List.length_take]; omega
      have htk : bs.take (i + 1) = bs.take i ++ [bs[i]] := by simp
      have hself := byteAt_snoc_self (bs.take i) bs[i]
      rw [htl] at hself
      have hq8 : bitw .or .u8 (byteAt (bs.take i) (i / 8) : Nat) ((bs[i].toNat * 2 ^ (7 - i % 8) : Nat) : Int) = ((byteAt (bs.take i ++ [bs[i]]) (i / 8) : Nat) : Int) := by
        rw [bitw_or (byteAt_lt _ _) hxl, ← hself]
        exact wrap_nat_u8 (byteAt_lt _ _)
      have hq9 : IntKind.i64.wrap ((i : Int) + 1) = (i : Int) + 1 := wrap_i64 (by omega) (by omega)
      have hpk := packTo_snoc N (bs.take i) bs[i] (by rw [htl]; omega)
      rw [htl] at hpk
      simp [e0, e3, e4, hcx, hSx, hLx, hp, hbit, hgc, hq1, hq2, hq3, hq4, hq5]
      refine ⟨⟨by omega, by omega⟩, by omega, by omega, ?_⟩
      refine ⟨⟨by omega, by omega⟩, ?_⟩
      refine st_r (b := g) (o := i / 8) (c := (bytesV (packTo N (bs.take i))).toArray) (el := 5) (v := .int .u8 (byteAt (bs.take i ++ [bs[i]]) (i / 8) : Nat)) (by simp [e3, e4, hq1, hq2, hq3]) ?_ hgi (by simp [bytesV, packTo]; omega) (by simp) ?_
      · simp only [E.ev, upd_apply]
        simp [e4, hq4, hq5, hq6]
        rw [htk, hq7]
        exact hq8
      intro w2 hg2 hm2 hsz2
      refine ⟨by simp, ?_⟩
      simp [e4, hq9]
      refine ⟨bs.length - (i + 1), by omega, i + 1, by omega, rfl, e0, e3, by omega, ?_, hM.tr ((Mod.refl _ _).drew.tr hm2)⟩
      rw [htk, hpk]
      simpa [bytesV, List.map_set] using hg2
    · obtain rfl : i = bs.length := by omega
      refine ite_r (t := false) (by simp) (fun h => by cases h) (fun _ => ?_)
      simp
      rw [List.take_length] at hgi
      exact ⟨e3, hgi, hM⟩
  · rintro env' w' ⟨e3, hgi, hM⟩
    simp [e3]
    have hpt : packTo N bs = packB bs := by rw [← hN]; rfl
    rw [hpt] at hgi
    refine ⟨⟨by simp [bytesV], .inr ⟨g, N, _, by rw [hpl], by omega, hgi, by omega, by unfold maxLen; omega, by simp [bytesV, hpl], ?_⟩⟩, hm1.trans hM (fun k hk e => by omega)⟩
    rw [List.toList_toArray, List.take_of_length_le (by simp [bytesV])]

end Go.Proofs.Ytajkofndbeohpaa.VG
