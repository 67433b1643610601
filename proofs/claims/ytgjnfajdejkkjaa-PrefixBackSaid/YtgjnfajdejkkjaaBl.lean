/-
  Bits: the law BitsBack; the steps of an argument (and what goes with it: parts Bh Bi Bj Bk Bl).
-/
import Derived.Test.YtgjnfajdejkkjaaBg
import Derived.Test.YtgjnfajdejkkjaaHq
import Derived.Test.YtgjnfajdejkkjaaOp
import Derived.Test.YtgjnfajdejkkjaaVgN

/-! ## Bits: the law BitsBack; the steps of an argument. -/
namespace Go.Proofs.Ytgjnfajdejkkjaa.VG
open Go
set_option linter.unusedSimpArgs false
set_option linter.unusedVariables false
set_option maxRecDepth 20000

structure Act where
  what : Int
  v : Nat
  n : Int
def Act.cells (a : Act) : List Value := [.int .i64 a.what, .int .u64 a.v, .int .i64 a.n]
def Act.fits (a : Act) : Prop := a.v < 18446744073709551616 ∧ -9223372036854775808 ≤ a.n ∧ a.n ≤ 9223372036854775807

theorem flat_get {α : Type} (f : α → List Value) (size : Nat) (hl : ∀ a, (f a).length = size) : ∀ (xs : List α) (i j : Nat), j < size → (xs.map f).flatten[i * size + j]? = xs[i]?.bind fun a => (f a)[j]?
  | [], i, j, h => by simp
  | a :: r, 0, j, h => by
    rw [List.map_cons, List.flatten_cons, Nat.zero_mul, Nat.zero_add, List.getElem?_append_left (by rw [hl]; exact h)]
    rfl
  | a :: r, i + 1, j, h => by
    rw [List.map_cons, List.flatten_cons, List.getElem?_append_right (by rw [hl, Nat.add_mul]; omega), hl, show (i + 1) * size + j - size = i * size + j by rw [Nat.add_mul]; omega, flat_get f size hl r i j h]
    rfl

/-! ### Plain -/
def actK (a : Act) : Nat := (a.n % 64).toNat
theorem actK_lt (a : Act) : actK a < 64 := by unfold actK; omega
def actB (a : Act) : List Bool := if a.what = 1 then List.replicate (actK a) false ++ [true] else toB (lowN a.v (actK a)) (actK a)
theorem actB_len (a : Act) : (actB a).length = if a.what = 1 then actK a + 1 else actK a := by
  unfold actB; split <;> simp [toB_length]
theorem actB_le (a : Act) : (actB a).length ≤ 64 := by
  rw [actB_len]; have := actK_lt a; split <;> omega
def actsB (xs : List Act) : List Bool := xs.flatMap actB
theorem actsB_le (xs : List Act) : (actsB xs).length ≤ 64 * xs.length := by
  induction xs with
  | nil => simp [actsB]
  | cons x r ih => simp only [actsB, List.flatMap_cons, List.length_append, List.length_cons] at ih ⊢; have := actB_le x; omega
theorem actsB_take (xs : List Act) (i : Nat) (x : Act) (h : xs[i]? = some x) : actsB (xs.take (i + 1)) = actsB (xs.take i) ++ actB x := by
  rw [List.take_add_one, h]; simp [actsB]
theorem actsB_split (xs : List Act) (i : Nat) (x : Act) (h : xs[i]? = some x) : ∃ r, actsB xs = actsB (xs.take i) ++ actB x ++ r := by
  refine ⟨actsB (xs.drop (i + 1)), ?_⟩
  rw [← actsB_take xs i x h]
  unfold actsB
  rw [← List.flatMap_append, List.take_append_drop]

theorem rAlign_end (bs : List Bool) : rAlign (packB bs) bs.length 0 = (8 * (packB bs).length, 0) := by
  have hl := packB_length bs
  unfold rAlign
  rw [if_neg (by simp)]
  have h1 : (List.range (rEnd bs.length - bs.length)).any (fun j => rdb (packB bs) (bs.length + j)) = false := by
    rw [List.any_eq_false]
    intro j _
    rw [rdb_pack, List.getD_eq_getElem?_getD, List.getElem?_eq_none (by omega)]
    simp
  rw [h1]
  simp [rEnd, hl]
  omega

end Go.Proofs.Ytgjnfajdejkkjaa.VG

/-! ## Bits: the document's writer (kinoraref2): what each of its calls comes to. -/
namespace Go.Proofs.Ytgjnfajdejkkjaa.VG
open Go
set_option linter.unusedSimpArgs false
set_option linter.unusedVariables false
set_option maxRecDepth 20000

/-- The document's writer at block b holds the bits bs, a byte each. -/
structure Xr (w : World) (F : Nat → Prop) (b : Nat) (bs : List Bool) : Prop where
  lt : ∀ k, F k → k < w.heap.size
  me : F b
  is : ∃ s el, w.heap[b]? = some (.cells #[s] el (0, 0)) ∧ w.ownsRow 0 5 1 s bs.length (bytesV (bs.map Bool.toNat)) ∧ ∀ k, s.ownBlock = some k → F k ∧ k ≠ b

theorem Xr.mod {w w' : World} {F S : Nat → Prop} {b : Nat} {bs : List Bool} (h : Xr w F b bs) (m : Mod S w w') (hd : ∀ k, F k → ¬ S k) : Xr w' F b bs := by
  obtain ⟨s, el, h1, h2, h3⟩ := h.is
  exact ⟨fun k hk => Nat.lt_of_lt_of_le (h.lt k hk) m.size, h.me, s, el, m.heap h1 (hd b h.me), m.owns h2 (fun k hk => hd k (h3 k hk).1), h3⟩

def XrAfter (w : World) (F : Nat → Prop) (b : Nat) (bs : List Bool) (w' : World) : Prop :=
  ∃ F', Xr w' F' b bs ∧ Mod F w w' ∧ ∀ k, F' k → F k ∨ w.heap.size ≤ k
theorem XrAfter.refl {w : World} {F : Nat → Prop} {b : Nat} {bs : List Bool} (h : Xr w F b bs) : XrAfter w F b bs w := ⟨F, h, Mod.refl _ _, fun _ h => .inl h⟩
theorem XrAfter.step {w w1 w2 : World} {F F1 : Nat → Prop} {b : Nat} {cs : List Bool} (hm : Mod F w w1) (hF : ∀ k, F1 k → F k ∨ w.heap.size ≤ k) (h : XrAfter w1 F1 b cs w2) : XrAfter w F b cs w2 := by
  obtain ⟨F2, h1, h2, h3⟩ := h
  refine ⟨F2, h1, hm.trans h2 (fun k hk h => (hF k h).resolve_right (by omega)), fun k hk => ?_⟩
  rcases h3 k hk with h | h
  · exact hF k h
  · exact .inr (Nat.le_trans hm.size h)

theorem newXr {w' : World} {b : Nat} {el : TypeId} (hb : w'.heap[b]? = some (.cells #[.slice none 0 0] el (0, 0))) : Xr w' (fun k => k = b) b [] :=
  ⟨fun k hk => hk ▸ heap_lt hb, rfl, _, el, by simpa using hb, World.ownsRow_nil _ _ _ _, fun k h => by simp [Value.ownBlock] at h⟩

/-- One bit more: the element is built, appended, stored. -/
theorem xbit_r {t1 t2 s : Nat} {o : Operand} {ty1 : TypeId} {m1 : List (Nat × E)} {k : S} {Q : Exit → Env → World → Prop} {env : Env} {w : World} {F : Nat → Prop} {b : Nat} {bs : List Bool} (x : Bool) {sv : Value} {el : TypeId}
    (hW : Xr w F b bs) (hb : w.heap[b]? = some (.cells #[sv] el (0, 0))) (hs : w.ownsRow 0 5 1 sv bs.length (bytesV (bs.map Bool.toNat))) (hF : ∀ k, sv.ownBlock = some k → F k ∧ k ≠ b)
    (e0 : env 0 = .pointer (some ⟨b, 0, none⟩)) (es : env s = sv) (ho : rhoOf m1 env w o = .int .u8 x.toNat) (hlen : bs.length < 1099511627776) (n1 : s ≠ t1) (n2 : t1 ≠ 0) (n3 : t2 ≠ 0)
    (hk : ∀ v1 v2 w2, XrAfter w F b (bs ++ [x]) w2 → k.wp Try.prog Q (upd (upd env t1 v1) t2 v2) w2) :
    (S.op (some t1) (.buildSlice 38 1 #[(0, o)]) ty1 m1 [] (.op (some t2) (.call ⟨(.builtin .append), #[(.tmp s), (.tmp t1)], #[38, 38]⟩) 38 [(s, (.vr s)), (t1, (.vr t1))] []
      (.chk (.un .nck (.vr 0)) (.chk (.un (.fa 0) (.un .nck (.vr 0))) (.st 1 (.un (.fa 0) (.un .nck (.vr 0))) (.vr t2) [] k))))).wp Try.prog Q env w := by
  refine app1_r slT8 hs (u := .int .u8 x.toNat) (by simp) (by omega) (by omega) (by unfold maxLen; omega) ho (fun v' w' => by simp [n1, es]) (fun v' w' => by simp [n1]) (by simp) ?_
  intro vb v' w1 w' _ hs' hmod hnew _
  have hbs : sv.ownBlock ≠ some b := fun e => (hF b e).2 rfl
  have hb' := hmod.heap hb hbs
  have hvb : ∀ k, v'.ownBlock = some k → (F k ∨ w.heap.size ≤ k) ∧ k ≠ b := fun k hk => by
    rcases hnew k hk with h1 | h1
    · exact ⟨.inl (hF k h1).1, (hF k h1).2⟩
    · exact ⟨.inr h1, by have := hW.lt b hW.me; omega⟩
  have q1 : ¬ 0 = t2 := fun e => n3 e.symm
  have q2 : ¬ 0 = t1 := fun e => n2 e.symm
  refine ⟨by simp, ?_⟩
  simp [q1, q2, e0]
  refine st_r (b := b) (o := 0) (v := v') (by simp [q1, q2, e0]) (by simp) hb' (by simp) (own_one hs') ?_
  intro w2 hb2 hm2 hsz2
  refine ⟨by simp, ?_⟩
  refine hk _ _ _ ⟨fun k => k = b ∨ v'.ownBlock = some k, ⟨?_, .inl rfl, v', el, by simpa using hb2, ?_, fun k hk => ⟨.inr hk, (hvb k hk).2⟩⟩, (hmod.mono fun k _ hk => (hF k hk).1).trans hm2 (fun k _ hk => hk ▸ hW.me), ?_⟩
  · rintro k (rfl | hk)
    · exact heap_lt hb2
    · rw [hsz2]; exact own_lt hs' hk
  · have := hm2.owns hs' (fun k hk e => (hvb k hk).2 e)
    simpa [bytesV] using this
  · rintro k (rfl | hk)
    · exact .inl hW.me
    · exact (hvb k hk).1

theorem Xr.sl {w : World} {F : Nat → Prop} {b : Nat} {bs : List Bool} (h : Xr w F b bs) : ∃ s, w.cell? ⟨b, 0, none⟩ = some s ∧ isS s ∧ slL s = bs.length := by
  obtain ⟨s, el, hb, hs, hFs⟩ := h.is
  obtain ⟨cap, hv⟩ := (Rd.of_owns hs).is
  exact ⟨s, by simpa using cell_blk hb 0, by rw [hv]; trivial, by rw [hv]; rfl⟩

/-- The bytes so far, as many as there will be. -/
def packTo (N : Nat) (bs : List Bool) : List Nat := (List.range N).map (byteAt bs)
theorem packTo_len (N : Nat) (bs : List Bool) : (packTo N bs).length = N := by simp [packTo]
theorem packTo_snoc (N : Nat) (bs : List Bool) (x : Bool) (h : bs.length / 8 < N) : packTo N (bs ++ [x]) = (packTo N bs).set (bs.length / 8) (byteAt (bs ++ [x]) (bs.length / 8)) := by
  apply List.ext_getElem
  · simp [packTo]
  · intro j h1 h2
    have hj : j < N := by simpa [packTo] using h1
    rw [List.getElem_set]
    split
    · rename_i h; subst h; simp [packTo]
    · rename_i h
      simp only [packTo, List.getElem_map, List.getElem_range]
      exact byteAt_snoc_other bs x j (fun e => h e.symm)
theorem packTo_nil (N : Nat) : packTo N [] = List.replicate N 0 := by
  apply List.ext_getElem
  · simp [packTo]
  · intro j h1 h2; simp [packTo, byteAt, ofB]

theorem zero8 {z : Value} (h : ∃ i, Try.prog.info? 5 = some i ∧ i.zero = some z) : z = .int .u8 0 := by
  obtain ⟨i, hi, hz⟩ := h
  obtain ⟨j, h3, h4⟩ : ∃ j, Try.prog.info? 5 = some j ∧ j.zero = some (.int .u8 0) := ⟨_, rfl, rfl⟩
  rw [h3] at hi
  cases hi
  rw [h4] at hz
  cases hz
  rfl

end Go.Proofs.Ytgjnfajdejkkjaa.VG

/-! ## Bits: the law BitsPlays. -/
namespace Go.Proofs.Ytgjnfajdejkkjaa.VG
open Go
set_option linter.unusedSimpArgs false
set_option linter.unusedVariables false
set_option maxRecDepth 20000

/-- Both writers hold the same bits, in blocks of their own. -/
structure Two (W w : World) (a b : Nat) (bs : List Bool) : Prop where
  is : ∃ F G, Wr w F a bs ∧ Xr w G b bs ∧ (∀ k, F k → ¬ G k) ∧ Own W w F ∧ Own W w G
theorem Two.mod' {W w : World} {a b : Nat} {bs : List Bool} (h : Two W w a b bs) : Mod none' W w := by
  obtain ⟨F, G, _, _, _, h1, _⟩ := h.is
  exact h1.mod
/-- What changes blocks that are neither's. -/
theorem Two.other {W w w' : World} {a b : Nat} {bs : List Bool} {S : Nat → Prop} (h : Two W w a b bs) (m : Mod S w w') (hS : ∀ k, S k → W.heap.size ≤ k) (hF : ∀ F G, Wr w F a bs → Xr w G b bs → (∀ k, F k → ¬ S k) ∧ (∀ k, G k → ¬ S k)) : Two W w' a b bs := by
  obtain ⟨F, G, h1, h2, h3, h4, h5⟩ := h.is
  obtain ⟨q1, q2⟩ := hF F G h1 h2
  have hm := h4.mod.far hS m
  exact ⟨F, G, h1.mod m q1, h2.mod m q2, h3, h4.at hm, h5.at hm⟩

/-- One call of each. -/
theorem Two.step {W w w1 w2 : World} {a b : Nat} {bs cs : List Bool} {F G : Nat → Prop} (h1 : Wr w F a bs) (h2 : Xr w G b bs) (h3 : ∀ k, F k → ¬ G k) (h4 : Own W w F) (h5 : Own W w G)
    (c1 : WrAfter w F a cs w1) (c2 : XrAfter w1 G b cs w2) : Two W w2 a b cs := by
  obtain ⟨F1, A1, M1, N1⟩ := c1
  obtain ⟨G1, A2, M2, N2⟩ := c2
  have O1 := h4.step M1 (fun _ h => h) N1
  have P1 := h5.at O1.mod
  have D1 := dis_step h3 N1 h2.lt
  have P2 := P1.step M2 (fun _ h => h) N2
  have D2 := dis_step (fun k hk hk' => D1 k hk' hk) N2 A1.lt
  exact ⟨F1, G1, A1.mod M2 D1, A2, fun k hk hk' => D2 k hk' hk, O1.at P2.mod, P2⟩

theorem padN_lt (n : Nat) : padN n < 8 := by unfold padN; omega

end Go.Proofs.Ytgjnfajdejkkjaa.VG

/-! ## Bits: the document's reader (kinoraref2): what each of its calls comes to. -/
namespace Go.Proofs.Ytgjnfajdejkkjaa.VG
open Go
set_option linter.unusedSimpArgs false
set_option linter.unusedVariables false
set_option maxRecDepth 20000

/-- The document's reader at block b, over the slice v of the bytes l: p bits were read; its error is e. -/
structure Yr (w : World) (G : Nat → Prop) (b : Nat) (v : Value) (l : List Nat) (p : Nat) (e : Int) : Prop where
  lt : b < w.heap.size
  off : ¬ G b
  fits : ∀ x ∈ l, x < 256
  le : p ≤ 8 * l.length
  small : l.length ≤ 17592186044416
  rd : Rd G w v l.length (bytesV l)
  is : ∃ el, w.heap[b]? = some (.cells #[v, .int .i64 p, .int .i64 e] el (0, 0))

theorem Yr.mod {w w' : World} {G S : Nat → Prop} {b : Nat} {v : Value} {l : List Nat} {p : Nat} {e : Int} (h : Yr w G b v l p e) (m : Mod S w w') (hd : ∀ k, G k → ¬ S k) (hb : ¬ S b) : Yr w' G b v l p e := by
  obtain ⟨el, h1⟩ := h.is
  exact ⟨Nat.lt_of_lt_of_le h.lt m.size, h.off, h.fits, h.le, h.small, h.rd.mod m hd, el, m.heap h1 hb⟩
def YrAfter (w : World) (G : Nat → Prop) (b : Nat) (v : Value) (l : List Nat) (p : Nat) (e : Int) (w' : World) : Prop := Yr w' G b v l p e ∧ Mod (fun k => k = b) w w'

theorem Yr.setErr {w w' : World} {G : Nat → Prop} {b : Nat} {v : Value} {l : List Nat} {p : Nat} {e e' : Int} {el : TypeId} (h : Yr w G b v l p e) (hb : w'.heap[b]? = some (.cells (#[v, .int .i64 p, .int .i64 e].setIfInBounds 2 (.int .i64 e')) el (0, 0)))
    (hm : Mod (fun k => k = b) w w') : Yr w' G b v l p e' :=
  ⟨Nat.lt_of_lt_of_le h.lt hm.size, h.off, h.fits, h.le, h.small, h.rd.mod hm (fun k hk e => h.off (e ▸ hk)), el, by simpa using hb⟩
theorem Yr.setAt {w w' : World} {G : Nat → Prop} {b : Nat} {v : Value} {l : List Nat} {p p' : Nat} {e : Int} {el : TypeId} (h : Yr w G b v l p e) (hp : p' ≤ 8 * l.length) (hb : w'.heap[b]? = some (.cells (#[v, .int .i64 p, .int .i64 e].setIfInBounds 1 (.int .i64 p')) el (0, 0)))
    (hm : Mod (fun k => k = b) w w') : Yr w' G b v l p' e :=
  ⟨Nat.lt_of_lt_of_le h.lt hm.size, h.off, h.fits, hp, h.small, h.rd.mod hm (fun k hk e => h.off (e ▸ hk)), el, by simpa using hb⟩

theorem Yr.sl {w : World} {G : Nat → Prop} {b : Nat} {v : Value} {l : List Nat} {p : Nat} {e : Int} (h : Yr w G b v l p e) : w.cell? ⟨b, 0, none⟩ = some v ∧ w.cell? ⟨b, 1, none⟩ = some (.int .i64 p) ∧ w.cell? ⟨b, 2, none⟩ = some (.int .i64 e) ∧ isS v ∧ slL v = l.length := by
  obtain ⟨el, hb⟩ := h.is
  obtain ⟨cap, hv⟩ := h.rd.is
  exact ⟨by simpa using cell_blk hb 0, by simpa using cell_blk hb 1, by simpa using cell_blk hb 2, by rw [hv]; trivial, by rw [hv]; rfl⟩

theorem yleft_c {w : World} {G : Nat → Prop} {b : Nat} {v : Value} {l : List Nat} {p : Nat} {e : Int} (h : Yr w G b v l p e) :
    Calls Try.prog 43 [.pointer (some ⟨b, 0, none⟩)].toArray w (Ret fun r w' => r = .int .i64 (8 * (l.length : Int) - p) ∧ Mod none' w w') := by
  refine F_sound c43 (by simp [fc43]) ?_
  obtain ⟨c0, c1, c2, hS, hL⟩ := h.sl
  have hsm := h.small
  have hle := h.le
  have hw1 : IntKind.i64.wrap (8 * (l.length : Int)) = 8 * (l.length : Int) := wrap_i64 (by omega) (by omega)
  have hw2 : IntKind.i64.wrap (8 * (l.length : Int) - (p : Int)) = 8 * (l.length : Int) - (p : Int) := wrap_i64 (by omega) (by omega)
  simp [fc43, s43, c0, c1, hS, hL, hw1, hw2]
  exact (Mod.refl _ _).drew

theorem ybit_c {w : World} {G : Nat → Prop} {b : Nat} {v : Value} {l : List Nat} {p : Nat} {e : Int} (h : Yr w G b v l p e) (i : Nat) (hi : i < 8 * l.length) :
    Calls Try.prog 44 [.pointer (some ⟨b, 0, none⟩), .int .i64 i].toArray w (Ret fun r w' => r = .int .u64 (rdb l i).toNat ∧ w' = w) := by
  refine F_sound c44 (by simp [fc44]) ?_
  obtain ⟨c0, c1, c2, hS, hL⟩ := h.sl
  have hsm := h.small
  have hcell := byte_at h.rd (i / 8) (by omega)
  have hp := (h.rd.ptr (by simp [bytesV]; omega)).1
  have hw1 : (i : Int).tdiv 8 = (i : Int) / 8 := tdiv_nn (by omega)
  have hw2 : IntKind.i64.wrap ((i : Int) / 8) = (i : Int) / 8 := wrap_i64 (by omega) (by omega)
  have hn1 : ((i : Int) / 8).toNat = i / 8 := by omega
  have hw3 : (i : Int).tmod 8 = (i : Int) % 8 := tmod_nn (by omega)
  have hw4 : IntKind.i64.wrap (7 - (i : Int) % 8) = 7 - (i : Int) % 8 := wrap_i64 (by omega) (by omega)
  have hw5 : IntKind.u64.wrap (7 - (i : Int) % 8) = ((7 - i % 8 : Nat) : Int) := by rw [wrap_u64 (by omega) (by omega)]; omega
  have hby : l.getD (i / 8) 0 < 256 := by
    rw [List.getD_eq_getElem?_getD, List.getElem?_eq_getElem (by omega), Option.getD_some]
    exact h.fits _ (List.getElem_mem _)
  have hfin := shr_and1 (l.getD (i / 8) 0) (7 - i % 8) hby (by omega)
  have hfin2 : IntKind.u64.wrap (((l.getD (i / 8) 0).testBit (7 - i % 8)).toNat : Int) = (((l.getD (i / 8) 0).testBit (7 - i % 8)).toNat : Int) := wrap_nat_u64 (by cases (l.getD (i / 8) 0).testBit (7 - i % 8) <;> simp)
  rw [← hfin] at hfin2
  simp [fc44, s44, c0, hS, hp, hL, hw1, hw2, hn1, hw3, hw4, hw5, hcell]
  refine ⟨⟨by omega, by omega⟩, ?_⟩
  simp only [List.getD_eq_getElem?_getD] at hfin hfin2
  rw [hfin2, hfin]
  simp [rdb]

theorem push_bit' (v : Nat) (x : Bool) (h : 2 * v + 1 < 18446744073709551616) : bitw .or .u64 (shl .u64 v 1) (x.toNat : Int) = ((2 * v + x.toNat : Nat) : Int) := by
  have := push_bit v x h
  rwa [wrap_nat_u64 (by cases x <;> simp)] at this

set_option maxHeartbeats 1000000 in
theorem yget_c {w : World} {G : Nat → Prop} {b : Nat} {v : Value} {l : List Nat} {p : Nat} {e : Int} (h : Yr w G b v l p e) (n : Int) :
    Calls Try.prog 25 [.pointer (some ⟨b, 0, none⟩), .int .i64 n].toArray w (Ret fun r w' => r = .int .u64 (rGet l p e n).1 ∧ YrAfter w G b v l (rGet l p e n).2.1 (rGet l p e n).2.2 w') := by
  refine F_sound c25 (by simp [fc25]) ?_
  obtain ⟨el, hb⟩ := h.is
  obtain ⟨c0, c1, c2, hS, hL⟩ := h.sl
  have hsm := h.small
  have hle := h.le
  simp [fc25, s25, c2]
  by_cases he : e = 0
  · subst he
    refine ite_r (t := false) (by simp) (fun h => by cases h) (fun _ => ?_)
    simp
    by_cases hn : n < 0 ∨ 64 < n
    · refine ite_r (t := true) (by simpa using hn) (fun _ => ?_) (fun h => by cases h)
      simp
      refine st_r (b := b) (o := 2) (by simp) (by simp; rfl) hb (by simp) (by simp) ?_
      intro w' hb' hm' _
      refine ⟨by simp, ?_⟩
      have hr : rGet l p 0 n = (0, p, 1) := by simp [rGet, hn]
      simp [hr]
      exact ⟨h.setErr hb' hm', hm'⟩
    · refine ite_r (t := false) (by simp; omega) (fun h => by cases h) (fun _ => ?_)
      simp
      refine call_r _ (yleft_c h) (by simp) ?_
      rintro r w1 ⟨rfl, hm1⟩
      have h1 := h.mod hm1 (fun _ _ h => h) (fun h => h)
      obtain ⟨el1, hb1⟩ := h1.is
      obtain ⟨d0, d1, d2, _, _⟩ := h1.sl
      refine ⟨by simp, ?_⟩
      simp
      by_cases hsh : 8 * l.length < p + n.toNat
      · refine ite_r (t := true) (by simp; omega) (fun _ => ?_) (fun h => by cases h)
        simp
        refine st_r (b := b) (o := 2) (by simp) (by simp; rfl) hb1 (by simp) (by simp) ?_
        intro w' hb' hm' _
        refine ⟨by simp, ?_⟩
        have hr : rGet l p 0 n = (0, p, 3) := by simp [rGet, hn, hsh]
        simp [hr]
        exact ⟨h1.setErr hb' hm', (hm1.mono (fun _ _ h => h.elim)).tr hm'⟩
      · refine ite_r (t := false) (by simp; omega) (fun h => by cases h) (fun _ => ?_)
        obtain ⟨N, rfl⟩ : ∃ N : Nat, n = N := ⟨n.toNat, by omega⟩
        have hN : N ≤ 64 := by omega
        simp only [Int.toNat_natCast] at hsh
        have hr : rGet l p 0 N = (ofB (rbits l p N), p + N, 0) := by simp [rGet, hsh]; omega
        rw [hr]
        simp
        refine loop_w (fun m env' w' => ∃ i : Nat, i ≤ N ∧ m = N - i ∧ env' 0 = .pointer (some ⟨b, 0, none⟩) ∧ env' 1 = .int .i64 N ∧ env' 5 = .int .u64 (ofB (rbits l p i)) ∧ env' 6 = .int .i64 i ∧ w' = w1) N
          (fun env' w' => env' 0 = .pointer (some ⟨b, 0, none⟩) ∧ env' 1 = .int .i64 N ∧ env' 5 = .int .u64 (ofB (rbits l p N)) ∧ w' = w1) ?_ ?_ ?_
        · exact ⟨0, by omega, by omega, by simp, by simp, by simp [rbits, ofB], by simp, rfl⟩
        · rintro m env' _ ⟨i, hi, hm, e0, e1, e5, e6, rfl⟩
          simp [e1, e6]
          by_cases hlt : i < N
          · refine ite_r (t := true) (by simp; omega) (fun _ => ?_) (fun h => by cases h)
            simp
            rw [wp_blk]
            have hw2 : IntKind.i64.wrap ((p : Int) + (i : Int)) = (p : Int) + (i : Int) := wrap_i64 (by omega) (by omega)
            simp [e0, e5, e6, d1]
            refine call_r _ (ybit_c h1 (p + i) (by omega)) (by simp [e0, e6, hw2]) ?_
            rintro r w2 ⟨rfl, hww⟩
            subst hww
            refine ⟨by simp, ?_⟩
            have hpb := push_bit' (ofB (rbits l p i)) (rdb l (p + i)) (ofB_lt64 _ (by rw [rbits_length]; omega))
            have hw4 : IntKind.i64.wrap ((i : Int) + 1) = (i : Int) + 1 := wrap_i64 (by omega) (by omega)
            simp [e5, e6, hw4]
            refine ⟨N - (i + 1), by omega, i + 1, by omega, rfl, by simp [e0], by simp [e1], ?_, by simp⟩
            rw [hpb, rbits_succ, ofB_snoc]
          · obtain rfl : i = N := by omega
            refine ite_r (t := false) (by simp) (fun h => by cases h) (fun _ => ?_)
            simp
            exact ⟨e0, e1, e5⟩
        · rintro env' _ ⟨e0, e1, e5, rfl⟩
          have hw2 : IntKind.i64.wrap ((p : Int) + (N : Int)) = (p : Int) + (N : Int) := wrap_i64 (by omega) (by omega)
          simp [e0, e1, d1]
          refine st_r (b := b) (o := 1) (v := .int .i64 ((p + N : Nat) : Int)) (by simp [e0]) (by simp [e1, hw2]) hb1 (by simp) (by simp) ?_
          intro w3 hb3 hm3 _
          refine ⟨by simp, ?_⟩
          simp [e5]
          exact ⟨h1.setAt (by omega) hb3 hm3, (hm1.mono (fun _ _ h => h.elim)).tr hm3⟩
  · refine ite_r (t := true) (by simpa using he) (fun _ => ?_) (fun h => by cases h)
    have hr : rGet l p e n = (0, p, e) := by simp [rGet, he]
    simp [hr]
    exact ⟨h, Mod.refl _ _⟩

theorem rEnd_iff (p z : Nat) (h : p + z ≤ rEnd p) : (p + z) % 8 = 0 ↔ p + z = rEnd p := by
  unfold rEnd at *
  constructor <;> intro <;> omega

theorem ynew_c {w : World} {G : Nat → Prop} {v : Value} {l : List Nat} (h : Rd G w v l.length (bytesV l)) (hG : ∀ k, G k → k < w.heap.size) (hf : ∀ x ∈ l, x < 256) (hl : l.length ≤ 17592186044416) :
    Calls Try.prog 23 [v].toArray w (Ret fun r w' => ∃ b : Nat, r = .pointer (some ⟨b, 0, none⟩) ∧ w.heap.size ≤ b ∧ Yr w' G b v l 0 0 ∧ Mod none' w w') := by
  refine F_sound c23 (by simp [fc23]) ?_
  obtain ⟨cap, hv⟩ := h.is
  have h1 : v.cells = #[v] := by rw [hv]; rfl
  simp [fc23, s23, h1]
  refine box_r (.agg #[v, .int .i64 0, .int .i64 0]) (by simp [h1, putAt]) ?_
  intro b w2 hb hb2 hm2 hsz
  refine ⟨by simp, ?_⟩
  simp only [wp_set, wp_ret', postF_ret, oks_cons, oks_nil, E.ok, evs_cons, evs_nil, E.ev, upd_apply, updo_some, if_true, pack_one, true_and]
  exact ⟨b, rfl, by omega, ⟨by omega, fun hk => by have := hG b hk; omega, hf, by omega, hl, h.mod hm2 (fun _ _ h => h), _, hb2⟩, hm2⟩

end Go.Proofs.Ytgjnfajdejkkjaa.VG

/-! ## Bits: the law BitsReads. -/
namespace Go.Proofs.Ytgjnfajdejkkjaa.VG
open Go
set_option linter.unusedSimpArgs false
set_option linter.unusedVariables false
set_option maxRecDepth 20000

/-- Both readers are at the same place, in blocks of their own. -/
structure RY (W w : World) (a b : Nat) (F : Nat → Prop) (v : Value) (l : List Nat) (p : Nat) (e : Int) : Prop where
  rr : Rr w F a l p e
  yr : Yr w (fun k => k < W.heap.size) b v l p e
  own : Own W w F
  bf : ¬ F b

theorem RY.bW {W w : World} {a b : Nat} {F : Nat → Prop} {v : Value} {l : List Nat} {p : Nat} {e : Int} (h : RY W w a b F v l p e) : W.heap.size ≤ b := by
  have := h.yr.off; omega
theorem RY.other {W w w' : World} {a b : Nat} {F S : Nat → Prop} {v : Value} {l : List Nat} {p : Nat} {e : Int} (h : RY W w a b F v l p e) (m : Mod S w w') (hS : ∀ k, S k → W.heap.size ≤ k) (hF : ∀ k, F k → ¬ S k) (hb : ¬ S b) : RY W w' a b F v l p e :=
  ⟨h.rr.mod m hF, h.yr.mod m (fun k hk hk' => by have := hS k hk'; omega) hb, h.own.at (h.own.mod.far hS m), h.bf⟩
theorem RY.mid {W w w' : World} {a b : Nat} {F : Nat → Prop} {v : Value} {l : List Nat} {p p' : Nat} {e e' : Int} (h : RY W w a b F v l p e) (h1 : RrAfter w F a l p' e' w') : Yr w' (fun k => k < W.heap.size) b v l p e :=
  h.yr.mod h1.2 (fun k hk e => by have := h.own.far k (e ▸ h.rr.me); omega) (fun e => h.bf (e ▸ h.rr.me))
theorem RY.step {W w w1 w2 : World} {a b : Nat} {F : Nat → Prop} {v : Value} {l : List Nat} {p p' : Nat} {e e' : Int} (h : RY W w a b F v l p e) (h1 : RrAfter w F a l p' e' w1) (h2 : YrAfter w1 (fun k => k < W.heap.size) b v l p' e' w2) : RY W w2 a b F v l p' e' := by
  have o1 := h.own.step h1.2 (fun k hk => hk ▸ h.rr.me) (fun k hk => .inl hk)
  refine ⟨h1.1.mod h2.2 (fun k hk e => h.bf (e ▸ hk)), h2.1, o1.at (o1.mod.far (fun k hk => by have := h.bW; omega) h2.2), h.bf⟩

theorem bytes_of {H : Type} {enc : TypeId × Value → H} {w : World} {a : Option Addr} {len cap : Nat} (h : Sees enc Try.prog w 38 [.slice a len cap]) :
    ∃ l : List Nat, l.length = len ∧ len ≤ maxLen ∧ Rd (fun b => b < w.heap.size) w (.slice a len cap) len (bytesV l) ∧ ∀ x ∈ l, x < 256 := by
  have hc1 : Try.prog.cellsOf 5 = 1 := by kernel_rfl
  obtain ⟨oa, l, c, he, hm, ess, h1, h2, h3⟩ := h.slice (e := 5) (by kernel_rfl) (by rw [hc1]; omega)
  simp only [List.cons.injEq, Value.slice.injEq, and_true] at he
  obtain ⟨rfl, rfl, rfl⟩ := he
  obtain ⟨xs, rfl, h4⟩ := pick (f := fun n : Nat => [Value.int .u8 n]) (G := fun n => n < 256) ess (fun es hes => by
    obtain ⟨_, hs⟩ := h2 es hes
    obtain ⟨n0, e0, w0⟩ := hs.int (k := .u8) (by kernel_rfl)
    obtain ⟨m, rfl, hm⟩ := wf_u8 w0
    exact ⟨m, e0, hm⟩)
  refine ⟨xs, by simpa using h1, hm, ?_, h4⟩
  have : ∀ xs : List Nat, (xs.map fun n : Nat => [Value.int .u8 n]).flatten = bytesV xs := by
    intro xs
    unfold bytesV
    induction xs with
    | nil => rfl
    | cons x r ih => simp [ih]
  rw [this] at h3
  exact h3

end Go.Proofs.Ytgjnfajdejkkjaa.VG
