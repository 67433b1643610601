/-
  VG, part M: memory: what stays ('Mod'), what a slice reads ('Rd'), and the rules of statements for the proofs (and what goes with it: parts VgM VgN).
-/
import Derived.Test.YtgjnfajdejkkjaaVgH
import Derived.Laws.AppendOwn
import Derived.Laws.MakeOwn
import Derived.Laws.OwnMore
import Derived.Laws.BytesArg
import Derived.Laws.IdiomStrings
import Derived.Below

/-! ## VG, part M: memory: what stays ('Mod'), what a slice reads ('Rd'), and the rules of statements for the proofs. -/
namespace Go.Proofs.Ytgjnfajdejkkjaa.VG
open Go
set_option linter.unusedSimpArgs false
set_option linter.unusedVariables false
set_option maxRecDepth 20000

/-- From w to w' only blocks of S, and new ones, have changed. -/
structure Mod (S : Nat → Prop) (w w' : World) : Prop where
  os : w'.os = w.os
  tape : w'.tape = w.tape
  output : w'.output = w.output
  size : w.heap.size ≤ w'.heap.size
  block : ∀ k, k < w.heap.size → ¬ S k → w'.heap[k]? = w.heap[k]?

def none' : Nat → Prop := fun _ => False

theorem Mod.refl (S : Nat → Prop) (w : World) : Mod S w w := ⟨rfl, rfl, rfl, Nat.le_refl _, fun _ _ _ => rfl⟩
theorem Mod.mono {S T : Nat → Prop} {w w' : World} (h : Mod S w w') (hs : ∀ k, k < w.heap.size → S k → T k) : Mod T w w' :=
  ⟨h.os, h.tape, h.output, h.size, fun k hk hn => h.block k hk (fun h' => hn (hs k hk h'))⟩
theorem Mod.trans {S T : Nat → Prop} {a b c : World} (h : Mod S a b) (k : Mod T b c) (hs : ∀ k, k < a.heap.size → T k → S k) : Mod S a c :=
  ⟨k.os.trans h.os, k.tape.trans h.tape, k.output.trans h.output, Nat.le_trans h.size k.size,
    fun i hi hn => (k.block i (Nat.lt_of_lt_of_le hi h.size) (fun h' => hn (hs i hi h'))).trans (h.block i hi hn)⟩
theorem Mod.tr {S : Nat → Prop} {a b c : World} (h : Mod S a b) (k : Mod S b c) : Mod S a c := h.trans k (fun _ _ h => h)
theorem Mod.drew {S : Nat → Prop} {a w : World} (h : Mod S a w) : Mod S a w.drew := ⟨h.os, h.tape, h.output, h.size, h.block⟩
theorem Mod.grown {row : Option Nat} {w w' : World} (h : w.grownBy w' row) : Mod (fun k => row = some k) w w' :=
  ⟨h.os, h.tape, h.output, h.size, fun k hk hn => h.block k hk (fun e => hn e.symm)⟩
theorem Mod.below {S : Nat → Prop} {w w' : World} (h : Mod S w w') (hs : ∀ k, k < w.heap.size → ¬ S k) : RowKit.Below w.heap.size w w' :=
  ⟨h.os, h.tape, h.output, h.size, fun k hk => h.block k hk (hs k hk)⟩
theorem Mod.heap {S : Nat → Prop} {w w' : World} (h : Mod S w w') {b : Nat} {o : Obj} (hb : w.heap[b]? = some o) (hn : ¬ S b) : w'.heap[b]? = some o :=
  (h.block b (Array.getElem?_eq_some_iff.1 hb).1 hn).trans hb
theorem Mod.cell {S : Nat → Prop} {w w' : World} (h : Mod S w w') {a : Addr} {v : Value} (hc : w.cell? a = some v) (hn : ¬ S a.block) : w'.cell? a = some v :=
  (World.cell?_of_block (h.block a.block (World.block_lt_of_cell? w a hc) hn)).trans hc
theorem Mod.owns {S : Nat → Prop} {w w' : World} (h : Mod S w w') {base size n : Nat} {e : TypeId} {v : Value} {xs : List Value} (ho : w.ownsRow base e size v n xs) (hn : ∀ b, v.ownBlock = some b → ¬ S b) : w'.ownsRow base e size v n xs := by
  refine ⟨ho.1, ?_⟩
  rcases ho.2 with hh | ⟨g, cap, cur, rfl, hb, hgg, rest⟩
  · exact .inl hh
  · exact .inr ⟨g, cap, cur, rfl, hb, h.heap hgg (hn g rfl), rest⟩

theorem heap_lt {w : World} {b : Nat} {o : Obj} (h : w.heap[b]? = some o) : b < w.heap.size := (Array.getElem?_eq_some_iff.1 h).1

theorem cell_blk {w : World} {b : Nat} {c : Array Value} {e : TypeId} {f : Nat × Nat} (h : w.heap[b]? = some (.cells c e f)) (o : Nat) : w.cell? ⟨b, o, none⟩ = c[o]? := by
  simp [World.cell?, h]
theorem frozen_blk {w : World} {b : Nat} {c : Array Value} {e : TypeId} (h : w.heap[b]? = some (.cells c e (0, 0))) (o : Nat) : w.frozen? ⟨b, o, none⟩ = false := by
  simp [World.frozen?, h]

theorem add_add (A : Addr) (l j : Nat) : (A.add l).add j = A.add (l + j) := by
  obtain ⟨b, o, s⟩ := A
  unfold Addr.add
  by_cases hl : l = 0
  · subst hl; simp
  · by_cases hj : j = 0
    · subst hj; simp [hl]
    · simp [hl, hj]; omega
theorem add_block (A : Addr) (l : Nat) : (A.add l).block = A.block := by
  unfold Addr.add; split <;> rfl

/-- The slice v reads the cells xs (n elements); F: where its block may lie. -/
structure Rd (F : Nat → Prop) (w : World) (v : Value) (n : Nat) (xs : List Value) : Prop where
  is : ∃ cap, v = .slice (slA v) n cap
  ptr : 0 < xs.length → (slA v).isSome = true ∧ F (slB v).block
  cell : ∀ j u, xs[j]? = some u → w.cell? ((slB v).add j) = some u

theorem Rd.mod {F S : Nat → Prop} {w w' : World} {v : Value} {n : Nat} {xs : List Value} (h : Rd F w v n xs) (m : Mod S w w') (hd : ∀ k, F k → ¬ S k) : Rd F w' v n xs := by
  refine ⟨h.is, h.ptr, fun j u hu => m.cell (h.cell j u hu) ?_⟩
  rw [add_block]
  have hp : 0 < xs.length := by
    have := (List.getElem?_eq_some_iff.1 hu).1
    omega
  exact hd _ (h.ptr hp).2
theorem Rd.mono {F G : Nat → Prop} {w : World} {v : Value} {n : Nat} {xs : List Value} (h : Rd F w v n xs) (hg : ∀ k, F k → G k) : Rd G w v n xs :=
  ⟨h.is, fun hp => ⟨(h.ptr hp).1, hg _ (h.ptr hp).2⟩, h.cell⟩
theorem Rd.nil (F : Nat → Prop) (w : World) (c : Nat) : Rd F w (.slice none 0 c) 0 [] := ⟨⟨c, rfl⟩, fun h => by simp at h, fun j u h => by simp at h⟩
theorem Rd.of_owns {w : World} {base size n : Nat} {e : TypeId} {v : Value} {xs : List Value} (h : w.ownsRow base e size v n xs) : Rd (fun b => v.ownBlock = some b ∧ base ≤ b) w v n xs := by
  have hl := h.1
  rcases h.2 with ⟨rfl, rfl⟩ | ⟨g, cap, cur, rfl, hb, hgg, rest⟩
  · refine ⟨⟨0, rfl⟩, fun hp => ?_, fun j u hu => ?_⟩
    · simp at hl; subst hl; simp at hp
    · simp at hl; subst hl; simp at hu
  · exact ⟨⟨cap, rfl⟩, fun _ => ⟨rfl, rfl, hb⟩, fun j u hu => h.cells (g := g) rfl j u hu⟩

/-! ### Steps that compute -/
section
variable {P : Program} {Q : Exit → Env → World → Prop} {env : Env} {w : World} {k : S}

theorem wp_nil : S.nil.wp P Q env w = Q .normal env w := rfl
theorem wp_chk {e : E} : (S.chk e k).wp P Q env w = (e.ok env w ∧ k.wp P Q env w) := rfl
theorem wp_set {x : Nat} {e : E} : (S.set x e k).wp P Q env w = k.wp P Q (upd env x (e.ev env w)) w := rfl
theorem wp_draw : (S.draw k).wp P Q env w = k.wp P Q env w.drew := rfl
theorem wp_exit {id : Nat} : (S.exit id).wp P Q env w = Q (.exit id) env w := rfl
theorem wp_ret' : S.ret.wp P Q env w = Q .ret env w := rfl
theorem thn_normal {K : Env → World → Prop} : thn K Q .normal env w = K env w := rfl
theorem thn_exit {K : Env → World → Prop} {i : Nat} : thn K Q (.exit i) env w = Q (.exit i) env w := rfl
theorem thn_ret {K : Env → World → Prop} : thn K Q .ret env w = Q .ret env w := rfl
theorem inBlk_normal {K : Env → World → Prop} {i : Nat} : inBlk i K Q .normal env w = K env w := rfl
theorem inBlk_exit {K : Env → World → Prop} {i j : Nat} : inBlk i K Q (.exit j) env w = if j = i then K env w else Q (.exit j) env w := rfl
theorem inBlk_ret {K : Env → World → Prop} {i : Nat} : inBlk i K Q .ret env w = Q .ret env w := rfl
theorem postF_ret {es : List E} {R : Value → World → Prop} : postF es R .ret env w = (oks es env w ∧ R (pack (evs es env w)) w) := rfl
theorem postF_normal {es : List E} {R : Value → World → Prop} : postF es R .normal env w = (oks es env w ∧ R (pack (evs es env w)) w) := rfl
theorem oks_nil : oks [] env w = True := rfl
theorem oks_cons {e : E} {r : List E} : oks (e :: r) env w = (e.ok env w ∧ oks r env w) := rfl
theorem evs_nil : evs [] env w = [] := rfl
theorem evs_cons {e : E} {r : List E} : evs (e :: r) env w = e.ev env w :: evs r env w := rfl
theorem pack_one {v : Value} : pack [v] = v := rfl
theorem pack_nil : pack [] = .tuple #[] := rfl
theorem pack_two {v u : Value} {r : List Value} : pack (v :: u :: r) = .tuple (v :: u :: r).toArray := rfl
theorem upd_apply {x y : Nat} {v : Value} : upd env x v y = if y = x then v else env y := rfl
theorem env0_apply {l : List Value} {t : Nat} : env0 l t = l.getD t undef := rfl
theorem updo_some {x : Nat} {v : Value} : updo env (some x) v = upd env x v := rfl
theorem updo_none {v : Value} : updo env none v = env := rfl
theorem cell_drew {a : Addr} : w.drew.cell? a = w.cell? a := rfl
theorem heap_drew : w.drew.heap = w.heap := rfl
theorem frozen_drew {a : Addr} : w.drew.frozen? a = w.frozen? a := rfl

/-! ### Rules -/
theorem wp_blk {id : Nat} {a : S} : (S.blk id a k).wp P Q env w = a.wp P (inBlk id (k.wp P Q) Q) env w := rfl

theorem ite_r {c : E} {a b : S} {t : Bool} (hc : c.ev env w = .bool t) (ha : t = true → a.wp P (thn (k.wp P Q) Q) env w) (hb : t = false → b.wp P (thn (k.wp P Q) Q) env w) : (S.ite c a b k).wp P Q env w := by
  refine ⟨by rw [hc]; trivial, fun h => ha ?_, fun h => hb ?_⟩
  · rw [hc] at h; exact h
  · rw [hc] at h; exact h

theorem call_r {dst : Option Nat} {f : FuncId} {es : List E} {pr : List PrE} {R : Value → World → Prop} (args : List Value) (hc : Calls P f args.toArray w (Ret R)) (ha : evs es env w = args)
    (hk : ∀ v w', R v w' → promsOk pr env w w' ∧ k.wp P Q (updo env dst v) w') : (S.call dst f es pr k).wp P Q env w := by
  show Calls P f (evs es env w).toArray w _
  rw [ha]
  exact hc.mono fun e w' ⟨v, he, hr⟩ => ⟨v, he, (hk v w' hr).1, (hk v w' hr).2⟩

theorem ifg_r {g : E} {want : Bool} {a b : S} {t : Bool} (hg : g.ev env w = .bool t) (ha : t = want → a.wp P (thn (k.wp P Q) Q) env w) (hb : t ≠ want → b.wp P (thn (k.wp P Q) Q) env w) : (S.ifg g want a b k).wp P Q env w := by
  refine ⟨fun h => ha ?_, fun h => hb ?_⟩
  · rw [hg] at h; simpa [isBool] using h
  · rw [hg] at h; simpa [isBool] using h

/-- A loop within its block: n goes down round by round. -/
theorem loop_r {id : Nat} {a : S} (I : Nat → Env → World → Prop) (n : Nat) (h0 : I n env w)
    (hr : ∀ n env w, I n env w → a.wp P (thn (fun env' w' => ∃ m, m < n ∧ I m env' w') (inBlk id (k.wp P Q) Q)) env w) : (S.blk id (.loop a) k).wp P Q env w :=
  ⟨I, n, h0, hr⟩

theorem upon_value {K : Value → World → Prop} {v : Value} {w' : World} : uponK P K (.ok (.value v) w') = K v w' := rfl

theorem st_r {a e : E} {pr : List PrE} {b o : Nat} {c : Array Value} {el : TypeId} {v : Value} (ha : a.ev env w = .pointer (some ⟨b, o, none⟩)) (he : e.ev env w = v) (h : w.heap[b]? = some (.cells c el (0, 0))) (ho : o < c.size)
    (h1 : one1 v = true) (hk : ∀ w', w'.heap[b]? = some (.cells (c.setIfInBounds o v) el (0, 0)) → Mod (fun k => k = b) w w' → w'.heap.size = w.heap.size → promsOk pr env w w' ∧ k.wp P Q env w') :
    (S.st 1 a e pr k).wp P Q env w := by
  show storeWp 1 (a.ev env w) (e.ev env w) w _
  rw [ha, he]
  have hvc : v.cells = #[v] := by cases v <;> first | rfl | simp [one1] at h1
  refine ⟨trivial, by rw [hvc]; rfl, fun j hj => ?_, fun x hx => by rw [hvc] at hx; simp at hx; rw [hx]; exact h1, ?_⟩
  · have : j = 0 := by omega
    subst this
    simp only [asA, add_zero, cell_blk h, frozen_blk h]
    exact ⟨by simp [ho], trivial⟩
  · rw [hvc]
    simp only [asA, putCells, add_zero]
    refine hk _ ?_ ⟨rfl, rfl, rfl, by simp, fun i hi hn => ?_⟩ (by simp)
    · simp only [World.setCell, Array.getElem?_modify, if_true, h, Option.map_some]; simp
    · exact RowKit.Below.heap_setCell w _ _ _ hn

/-- A new block of cells. -/
theorem newBlk (w : World) (c : Array Value) (e : TypeId) : (w.alloc (.cells c e)).heap[w.heap.size]? = some (.cells c e (0, 0)) ∧ Mod none' w (w.alloc (.cells c e)) ∧ (w.alloc (.cells c e)).heap.size = w.heap.size + 1 :=
  ⟨heap_alloc_new w _, ⟨rfl, rfl, rfl, by simp, fun i hi _ => heap_alloc_old w _ i hi⟩, by simp⟩

theorem box_r {x : Option Nat} {T : TypeId} {o : Operand} {ty : TypeId} {m : List (Nat × E)} {pr : List PrE} (v : Value) (hv : rhoOf m env w o = v)
    (hk : ∀ b w', b = w.heap.size → w'.heap[b]? = some (.cells v.cells T (0, 0)) → Mod none' w w' → w'.heap.size = w.heap.size + 1 → promsOk pr env w w' ∧ k.wp P Q (updo env x (.pointer (some ⟨b, 0, none⟩))) w') :
    (S.op x (.box T o) ty m pr k).wp P Q env w := by
  obtain ⟨h1, h2, h3⟩ := newBlk w v.cells T
  show uponK P _ ((execOp (rhoOf m env w) (opOf (.box T o) ty)).run P w)
  have : (execOp (rhoOf m env w) (opOf (.box T o) ty)).run P w = .ok (.value (.pointer (some ⟨w.heap.size, 0, none⟩))) (w.alloc (.cells v.cells T)) := by
    simp only [execOp, opOf, Instr.box, newVar, newRow, newObj, run_bind, run_pure, hv]
    rfl
  rw [this]
  exact hk _ _ rfl h1 h2 h3

theorem alloc_r {x : Option Nat} {T : TypeId} {ty : TypeId} {m : List (Nat × E)} {pr : List PrE} {i : TypeInfo} {z : Value} (hi : P.info? T = some i) (hz : i.zero = some z)
    (hk : ∀ b w', b = w.heap.size → w'.heap[b]? = some (.cells z.cells T (0, 0)) → Mod none' w w' → w'.heap.size = w.heap.size + 1 → promsOk pr env w w' ∧ k.wp P Q (updo env x (.pointer (some ⟨b, 0, none⟩))) w') :
    (S.op x (.alloc T) ty m pr k).wp P Q env w := by
  obtain ⟨h1, h2, h3⟩ := newBlk w z.cells T
  show uponK P _ ((execOp (rhoOf m env w) (opOf (.alloc T) ty)).run P w)
  have : (execOp (rhoOf m env w) (opOf (.alloc T) ty)).run P w = .ok (.value (.pointer (some ⟨w.heap.size, 0, none⟩))) (w.alloc (.cells z.cells T)) := by
    simp only [execOp, opOf, Instr.alloc, newVar, newRow, newObj, run_bind, run_pure, run_zeroValue hi hz]
    rfl
  rw [this]
  exact hk _ _ rfl h1 h2 h3

/-- What a slice type's element is like. -/
structure SlT (P : Program) (t e : TypeId) (size bytes : Nat) : Prop where
  und : P.underlying t = some (.slice e)
  inf : ∃ i z, P.info? e = some i ∧ i.zero = some z ∧ i.size = size ∧ i.bytes = bytes ∧ z.cells.size = size
  pos : 0 < size

/-- append onto a row of the call's own: in place, or in a new block. -/
theorem append_own (w : World) {base : Nat} {t ty e : TypeId} {i : TypeInfo} {z : Value} (ht : P.underlying t = some (.slice e)) (hi : P.info? e = some i) (hz : i.zero = some z) (hzs : z.cells.size = i.size) (hsz : 0 < i.size)
    {v : Value} {n : Nat} {xs : List Value} (hown : w.ownsRow base e i.size v n xs) (A : Addr) (m c : Nat) (ys : List Value) (hl : ys.length = m * i.size) (hy : ∀ j u, ys[j]? = some u → w.cell? (A.add j) = some u)
    (h1 : ∀ u ∈ ys, u.oneCell' = true) (hm : n + m ≤ maxLen) (h47 : (n + m) * i.bytes ≤ 140737488355328) (hb : base ≤ w.heap.size) :
    ∃ v' w', (Builtin.append_ #[t, t] ty #[v, .slice (some A) m c]).run P w = .ok v' w' ∧ w'.ownsRow base e i.size v' (n + m) (xs ++ ys) ∧ Mod (fun k => v.ownBlock = some k) w w' ∧
      (v'.ownBlock = v.ownBlock ∨ v'.ownBlock = some w.heap.size) ∧ (v' = .slice none 0 0 ↔ v = .slice none 0 0 ∧ m = 0) ∧ (v'.ownBlock = v.ownBlock → w'.heap.size = w.heap.size) := by
  have hsmall : n + m ≤ 9223372036854775807 := by simp only [maxLen] at hm; omega
  have hlen : (xs ++ ys).length = (n + m) * i.size := by rw [List.length_append, hown.1, hl, Nat.add_mul]
  -- the new block's row
  have fresh : ∀ (old : Nat), (w.drew.alloc (.cells ((xs ++ ys).toArray ++ Builtin.zeroCells z.cells (grownCap w (n + m) old e - (n + m))) e)).ownsRow base e i.size
        (.slice (some ⟨w.heap.size, 0, none⟩) (n + m) (grownCap w (n + m) old e)) (n + m) (xs ++ ys) ∧ Mod (fun k => v.ownBlock = some k) w (w.drew.alloc (.cells ((xs ++ ys).toArray ++ Builtin.zeroCells z.cells (grownCap w (n + m) old e - (n + m))) e)) := by
    intro old
    refine ⟨⟨hlen, .inr ⟨w.heap.size, grownCap w (n + m) old e, _, rfl, hb, heap_alloc_new w.drew _, grownCap_ge _ _ _ _, grownCap_le_maxLen _ _ _ _ hm, ?_, ?_⟩⟩, ⟨rfl, rfl, rfl, by simp, fun k hk _ => heap_alloc_old w.drew _ k hk⟩⟩
    · have := grownCap_ge w (n + m) old e
      rw [Array.size_append, List.size_toArray, hlen, size_zeroCells, hzs, ← Nat.add_mul]
      congr 1
      omega
    · rw [Array.toList_append, ← hlen]
      exact List.take_left
  rcases hown.2 with ⟨rfl, rfl⟩ | ⟨g, cap, cur, rfl, hbg, hg, hnc, hcm, hcs, htake⟩
  · obtain rfl : xs = [] := List.eq_nil_of_length_eq_zero (by simpa using hown.1)
    by_cases h0 : m = 0
    · subst h0
      obtain rfl : ys = [] := List.eq_nil_of_length_eq_zero (by simpa using hl)
      refine ⟨.slice none 0 0, w, ?_, World.ownsRow_nil w base e i.size, Mod.refl _ w, .inl rfl, by simp, fun _ => rfl⟩
      simp [Builtin.append_, Go.run_underlying ht, sizeOf, typeInfo, hi, Builtin.lenOf, Builtin.firstCells, loadCells, loadCellsFrom]
    · have hr := run_append_nil (P := P) w t ty e i z ht hi hz A m c ys hl hy (by omega) (by omega) (by have := h47; simp only [Nat.zero_add] at this; omega)
      have hf := fresh 0
      simp only [Nat.zero_add, List.nil_append] at hf ⊢
      exact ⟨_, _, hr, hf.1, hf.2, .inr rfl, by simp [h0], fun h => by simp [Value.ownBlock] at h⟩
  · by_cases hroom : n + m ≤ cap
    · have hfit : n * i.size + ys.length ≤ cur.size := by rw [hl, hcs, ← Nat.add_mul]; exact Nat.mul_le_mul_right _ hroom
      have hr := run_append_room (P := P) w t ty e i ht hi g n cap cur hg A m c ys hl hy h1 hroom hfit
      refine ⟨_, _, hr, ⟨hlen, .inr ⟨g, cap, _, rfl, hbg, setRow_heap w g cur _ e _ hg, hroom, hcm, ?_, ?_⟩⟩, ⟨rfl, rfl, rfl, by simp, fun k _ hk => setRow_other w g k _ (fun e => hk (by simp [Value.ownBlock, e]))⟩, .inl rfl, by simp, fun _ => by simp⟩
      · have h2 := hown.1
        simp only [List.size_toArray, List.length_append, List.length_take, List.length_drop, Array.length_toList]
        omega
      · rw [htake, ← hlen]
        exact List.take_left
    · have hr := run_append_grow (P := P) w t ty e i z ht hi hz ⟨g, 0, none⟩ n cap xs hown.1 (hown.cells (g := g) rfl) A m c ys hl hy (by omega) (by omega) (growslice_fits (by omega) h47)
      have hf := fresh cap
      have e1 : xs.toArray ++ ys.toArray = (xs ++ ys).toArray := by simp
      rw [e1] at hr
      have hne : (Value.slice (some ⟨w.heap.size, 0, none⟩) (n + m) (grownCap w (n + m) cap e)).ownBlock ≠ (Value.slice (some ⟨g, 0, none⟩) n cap).ownBlock := by
        have := heap_lt hg
        simp [Value.ownBlock]; omega
      exact ⟨_, _, hr, hf.1, hf.2, .inr rfl, by simp, fun h => absurd h hne⟩

/-- append(own, what reads): the row is owned anew; nothing else has changed. -/
theorem app_r {x : Option Nat} {t e : TypeId} {size bytes : Nat} (T : SlT P t e size bytes) {s u : Operand} {ty : TypeId} {m : List (Nat × E)} {pr : List PrE} {v vu : Value} {n nu base : Nat} {xs ys : List Value} {F : Nat → Prop}
    (hown : w.ownsRow base e size v n xs) (hu : Rd F w vu nu ys) (hl : ys.length = nu * size) (h1 : ∀ y ∈ ys, y.oneCell' = true) (hb : base ≤ w.heap.size) (h47 : (n + nu) * bytes ≤ 140737488355328) (hm : n + nu ≤ maxLen)
    (hs : rhoOf m env w s = v) (hx : rhoOf m env w u = vu)
    (hk : ∀ v' w', w'.ownsRow base e size v' (n + nu) (xs ++ ys) → Mod (fun k => v.ownBlock = some k) w w' → (v'.ownBlock = v.ownBlock ∨ v'.ownBlock = some w.heap.size) → (v' = .slice none 0 0 ↔ v = .slice none 0 0 ∧ nu = 0) → promsOk pr env w w' ∧ k.wp P Q (updo env x v') w') :
    (S.op x (.call ⟨.builtin .append, #[s, u], #[t, t]⟩) ty m pr k).wp P Q env w := by
  obtain ⟨i, z, hi, hz, hsz, hby, hzs⟩ := T.inf
  obtain ⟨cap, hvu⟩ := hu.is
  show uponK P _ ((execOp (rhoOf m env w) (opOf (.call ⟨.builtin .append, #[s, u], #[t, t]⟩) ty)).run P w)
  have key : ∃ v' w', (Builtin.append_ #[t, t] ty #[v, vu]).run P w = .ok v' w' ∧ w'.ownsRow base e size v' (n + nu) (xs ++ ys) ∧ Mod (fun k => v.ownBlock = some k) w w' ∧ (v'.ownBlock = v.ownBlock ∨ v'.ownBlock = some w.heap.size) ∧ (v' = .slice none 0 0 ↔ v = .slice none 0 0 ∧ nu = 0) := by
    subst hsz hby
    cases hA : slA vu with
    | some A =>
      rw [hA] at hvu
      subst hvu
      have hcell : ∀ j u, ys[j]? = some u → w.cell? (A.add j) = some u := fun j u hj => by
        have := hu.cell j u hj
        simpa [slB, slA] using this
      obtain ⟨v', w', q1, q2, q3, q4, q5, _⟩ := append_own (P := P) w (ty := ty) T.und hi hz hzs T.pos hown A nu cap ys hl hcell h1 hm h47 hb
      exact ⟨v', w', q1, q2, q3, q4, q5⟩
    | none =>
      rw [hA] at hvu
      have hys : ys = [] := by
        cases hy : ys with
        | nil => rfl
        | cons y r => have := (hu.ptr (by simp [hy])).1; rw [hA] at this; cases this
      have hnu : nu = 0 := by
        rw [hys] at hl
        simp only [List.length_nil] at hl
        rcases Nat.mul_eq_zero.1 hl.symm with h | h
        · exact h
        · have := T.pos; omega
      subst hnu hys hvu
      have hA' : ∀ (A : Addr), (Builtin.append_ #[t, t] ty #[v, .slice none 0 cap]).run P w = (Builtin.append_ #[t, t] ty #[v, .slice (some A) 0 cap]).run P w := by
        intro A
        rcases hown.2 with ⟨rfl, rfl⟩ | ⟨g, cp, cur, rfl, _⟩
        · simp [Builtin.append_, Go.run_underlying T.und, sizeOf, typeInfo, hi, Builtin.lenOf, Builtin.firstCells, loadCells, loadCellsFrom]
        · rename_i hr
          have hc : n ≤ cp := hr.2.2.1
          simp [Builtin.append_, Go.run_underlying T.und, sizeOf, typeInfo, hi, Builtin.lenOf, Builtin.firstCells, loadCells, loadCellsFrom, hc]
      rw [hA' default]
      obtain ⟨v', w', q1, q2, q3, q4, q5, _⟩ := append_own (P := P) w (ty := ty) T.und hi hz hzs T.pos hown default 0 cap [] (by simp) (fun j u hj => by simp at hj) (fun y hy => by simp at hy) hm h47 hb
      exact ⟨v', w', q1, q2, q3, q4, q5⟩
  obtain ⟨v', w', hrun, ho, hg, hob, hiff⟩ := key
  have : (execOp (rhoOf m env w) (opOf (.call ⟨.builtin .append, #[s, u], #[t, t]⟩) ty)).run P w = .ok (.value v') w' := by
    simp only [execOp, opOf, resolve, run_bind, run_pure, invoke, builtin]
    have harr : Array.map (rhoOf m env w) #[s, u] = #[v, vu] := by simp [hs, hx]
    rw [harr, hrun]
  rw [this]
  exact hk v' w' ho hg hob hiff


theorem run_buildSlice {t e : TypeId} {size bytes : Nat} (T : SlT P t e size bytes) (len : Nat) (h0 : 0 < len) (h24 : len * size ≤ 2 ^ 24) (parts : Array (Nat × Value)) (z : Value) {i : TypeInfo} (hi : P.info? e = some i) (hz : i.zero = some z) (cells : Array Value)
    (hf : Instr.fill (fun j => some (j * size, size)) (madeCells z.cells (len * size)) parts.toList = some cells) (w : World) :
    (Instr.buildSlice t len parts).run P w = .ok (.slice (some ⟨w.heap.size, 0, none⟩) len len) (w.alloc (.cells cells e)) := by
  obtain ⟨i', z', hi', hz', hsz, hby, hzs⟩ := T.inf
  have : i' = i := Option.some.inj (hi'.symm.trans hi)
  subst this
  have hn : ¬ len * size = 0 := by
    intro h
    rcases Nat.mul_eq_zero.1 h with h | h
    · omega
    · have := T.pos; omega
  unfold Instr.buildSlice
  rw [run_bind, Go.Proofs.Ytgjnfajdejkkjaa.VG.run_underlying T.und]
  simp only []
  rw [run_bind, run_sizeOf hi, hsz]
  simp only []
  rw [if_neg (by omega), if_neg hn]
  rw [run_bind, run_zeroValue hi hz]
  simp only []
  rw [run_bind, run_pure]
  simp only []
  have e1 : (Array.range (len * size)).map (fun j => z.cells[j % z.cells.size]!) = madeCells z.cells (len * size) := rfl
  rw [e1, hf]
  rfl

/-- append(own, x) of one element of one cell: the new element is laid into a block of its own first. -/
theorem app1_r {b : Nat} {x : Option Nat} {t e : TypeId} {bytes : Nat} (T : SlT P t e 1 bytes) {s : Nat} {o : Operand} {ty ty1 : TypeId} {m m1 : List (Nat × E)} {pr pr1 : List PrE} {v u : Value} {n base : Nat} {xs : List Value}
    (hown : w.ownsRow base e 1 v n xs) (h1 : one1 u = true) (hb : base ≤ w.heap.size) (h47 : (n + 1) * bytes ≤ 140737488355328) (hm : n + 1 ≤ maxLen)
    (ho : rhoOf m1 env w o = u) (hs : ∀ v' w', rhoOf m (upd env b v') w' (.tmp s) = v) (hx : ∀ v' w', rhoOf m (upd env b v') w' (.tmp b) = v')
    (hp1 : ∀ w', Mod none' w w' → promsOk pr1 env w w')
    (hk : ∀ vb v' w1 w', Mod none' w w1 → w'.ownsRow base e 1 v' (n + 1) (xs ++ [u]) → Mod (fun k => v.ownBlock = some k) w w' → (∀ k, v'.ownBlock = some k → v.ownBlock = some k ∨ w.heap.size ≤ k) → v' ≠ .slice none 0 0 → promsOk pr (upd env b vb) w1 w' ∧ k.wp P Q (updo (upd env b vb) x v') w') :
    (S.op (some b) (.buildSlice t 1 #[(0, o)]) ty1 m1 pr1 (.op x (.call ⟨.builtin .append, #[.tmp s, .tmp b], #[t, t]⟩) ty m pr k)).wp P Q env w := by
  obtain ⟨i, z, hi, hz, hsz, hby, hzs⟩ := T.inf
  obtain ⟨h2, h3, h4⟩ := newBlk w #[u] e
  have hcells : u.cells = #[u] := by cases u <;> first | rfl | simp [one1] at h1
  show uponK P _ ((execOp (rhoOf m1 env w) (opOf (.buildSlice t 1 #[(0, o)]) ty1)).run P w)
  have : (execOp (rhoOf m1 env w) (opOf (.buildSlice t 1 #[(0, o)]) ty1)).run P w = .ok (.value (.slice (some ⟨w.heap.size, 0, none⟩) 1 1)) (w.alloc (.cells #[u] e)) := by
    have hmap : Array.map (fun (q : Nat × Operand) => (q.1, rhoOf m1 env w q.2)) #[(0, o)] = #[(0, u)] := by simp [ho]
    have hf : Instr.fill (fun j => some (j * 1, 1)) (madeCells z.cells (1 * 1)) (#[(0, u)] : Array (Nat × Value)).toList = some #[u] := by
      have hs1 : (madeCells z.cells (1 * 1)).size = 1 := size_madeCells _ _
      simp only [Instr.fill, hcells]
      rw [if_neg (by simp [hs1])]
      congr 1
      refine Array.ext (by simp [hs1]) (fun q h1 h2 => ?_)
      have : q = 0 := by simp at h2; exact h2
      subst this
      simp
    simp only [execOp, opOf, run_bind]
    rw [hmap, run_buildSlice T 1 (by omega) (by omega) _ z hi hz _ hf w]
    rfl
  rw [this]
  have hu : Rd (fun _ => True) (w.alloc (.cells #[u] e)) (.slice (some ⟨w.heap.size, 0, none⟩) 1 1) 1 [u] := by
    refine ⟨⟨1, rfl⟩, fun _ => ⟨rfl, trivial⟩, fun j y hj => ?_⟩
    have hj0 : j = 0 := by
      have := (List.getElem?_eq_some_iff.1 hj).1; simp at this; exact this
    subst hj0
    simp at hj
    subst hj
    simp only [slB, slA, Option.getD_some, add_zero, cell_blk h2]
    rfl
  refine ⟨hp1 _ h3, ?_⟩
  refine app_r (P := P) T (F := fun _ => True) (v := v) (n := n) (nu := 1) (base := base) (xs := xs) (ys := [u]) (h3.owns hown (fun _ _ h => h)) hu (by simp) ?_ (by rw [h4]; omega) h47 hm (hs _ _) (hx _ _) ?_
  · intro y hy
    simp at hy
    subst hy
    cases y <;> first | rfl | simp [one1] at h1
  · intro v' w' ho' hmod hob hiff
    refine hk _ _ _ _ h3 ho' ((h3.mono (fun _ _ h => h.elim)).trans hmod (fun _ _ h => h)) (fun k hk' => ?_) (fun h => ?_)
    · rcases hob with hob | hob
      · exact .inl (hob ▸ hk')
      · rw [hob] at hk'
        cases hk'
        right; rw [h4]; omega
    have := (hiff.1 h).2
    omega

/-- make([]T, len, cap). -/
theorem mk_r {x : Option Nat} {t e : TypeId} {size bytes : Nat} (T : SlT P t e size bytes) {a b : Operand} {ty : TypeId} {m : List (Nat × E)} {pr : List PrE} {kl kc : IntKind} {l c : Int}
    (ha : rhoOf m env w a = .int kl l) (hb : rhoOf m env w b = .int kc c) (h0 : 0 ≤ l) (hlc : l ≤ c) (hby : (bytes : Int) * c ≤ 281474976710656) (h63 : c ≤ 9223372036854775807)
    (hk : ∀ b w' z, b = w.heap.size → (∃ i, P.info? e = some i ∧ i.zero = some z) → w'.heap[b]? = some (.cells (madeCells z.cells (c.toNat * size)) e (0, 0)) → Mod none' w w' → w'.heap.size = w.heap.size + 1 →
      promsOk pr env w w' ∧ k.wp P Q (updo env x (.slice (some ⟨b, 0, none⟩) l.toNat c.toNat)) w') :
    (S.op x (.makeSlice t a b) ty m pr k).wp P Q env w := by
  obtain ⟨i, z, hi, hz, hsz, hbs, hzs⟩ := T.inf
  subst hsz hbs
  obtain ⟨h2, h3, h4⟩ := newBlk w (madeCells z.cells (c.toNat * i.size)) e
  show uponK P _ ((execOp (rhoOf m env w) (opOf (.makeSlice t a b) ty)).run P w)
  have : (execOp (rhoOf m env w) (opOf (.makeSlice t a b) ty)).run P w = .ok (.value (.slice (some ⟨w.heap.size, 0, none⟩) l.toNat c.toNat)) (w.alloc (.cells (madeCells z.cells (c.toNat * i.size)) e)) := by
    simp only [execOp, opOf, run_bind, ha, hb]
    rw [run_make w t e i z T.und hi hz kl kc l c h0 hlc hby h63]
    rfl
  rw [this]
  exact hk _ _ z rfl ⟨i, hi, hz⟩ h2 h3 h4

/-- string(b) of bytes. -/
theorem str_r {x : Option Nat} {t e d : TypeId} (ht : P.underlying t = some (.slice e)) (he : P.underlying e = some (.int .u8)) (hd : P.underlying d = some .string) {a : Operand} {ty : TypeId} {m : List (Nat × E)} {pr : List PrE} {v : Value} {F : Nat → Prop} {l : List UInt8}
    (hv : Rd F w v l.length (l.map fun b => .int .u8 b.toNat)) (ha : rhoOf m env w a = v) (hk : promsOk pr env w w ∧ k.wp P Q (updo env x (.string ⟨l.toArray⟩)) w) : (S.op x (.convert t d a) ty m pr k).wp P Q env w := by
  show uponK P _ ((execOp (rhoOf m env w) (opOf (.convert t d a) ty)).run P w)
  obtain ⟨cap, hvu⟩ := hv.is
  have : (execOp (rhoOf m env w) (opOf (.convert t d a) ty)).run P w = .ok (.value (.string ⟨l.toArray⟩)) w := by
    simp only [execOp, opOf, run_bind, ha]
    cases hA : slA v with
    | some A =>
      rw [hA] at hvu
      subst hvu
      rw [run_convert_bytes_back w t d e A cap l ht he hd (fun j hj => hv.cell j _ (by simp [hj]))]
      rfl
    | none =>
      have hl : l = [] := by
        cases l with
        | nil => rfl
        | cons y r => have := (hv.ptr (by simp)).1; rw [hA] at this; cases this
      subst hl
      rw [hvu, hA]
      rw [run_convert_bytes_nil w t e ht he _ _ d hd]
      rfl
  rw [this]
  exact hk

end

theorem thn_imp {K K' : Env → World → Prop} {Q Q' : Exit → Env → World → Prop} (hk : ∀ env w, K env w → K' env w) (h : ∀ x env w, Q x env w → Q' x env w) : ∀ x env w, thn K Q x env w → thn K' Q' x env w := by
  intro x env w hq
  cases x with
  | normal => exact hk env w hq
  | _ => exact h _ env w hq

theorem uponK_imp {P : Program} {K K' : Value → World → Prop} (h : ∀ v w, K v w → K' v w) {r : Result Next} (hr : uponK P K r) : uponK P K' r := by
  cases r with
  | ok n w => cases n <;> simp only [uponK] at hr ⊢ <;> first | exact h _ _ hr | exact hr.mono fun e w' ⟨v, he, hv⟩ => ⟨v, he, h _ _ hv⟩
  | halt x w => exact hr

/-- What leads to Q leads to all that follows from Q. -/
theorem wp_weaken {P : Program} : ∀ (s : S) {Q Q' : Exit → Env → World → Prop}, (∀ x env w, Q x env w → Q' x env w) → ∀ {env : Env} {w : World}, s.wp P Q env w → s.wp P Q' env w := by
  intro s
  induction s with
  | nil => intro Q Q' h env w hw; exact h _ _ _ hw
  | chk e k ih => intro Q Q' h env w hw; exact ⟨hw.1, ih h hw.2⟩
  | set x e k ih => intro Q Q' h env w hw; exact ih h hw
  | draw k ih => intro Q Q' h env w hw; exact ih h hw
  | call dst f es pr k ih => intro Q Q' h env w hw; exact Calls.mono hw fun e w' ⟨v, h1, h2, h3⟩ => ⟨v, h1, h2, ih h h3⟩
  | st n a e pr k ih => intro Q Q' h env w hw; obtain ⟨h1, h2, h3, h4, h5, h6⟩ := hw; exact ⟨h1, h2, h3, h4, h5, ih h h6⟩
  | op dst o ty m pr k ih => intro Q Q' h env w hw; exact uponK_imp (fun v w' hv => ⟨hv.1, ih h hv.2⟩) hw
  | ifg g want a b k iha ihb ihk =>
    intro Q Q' h env w hw
    exact ⟨fun hg => iha (thn_imp (fun env w => ihk h) h) (hw.1 hg), fun hg => ihb (thn_imp (fun env w => ihk h) h) (hw.2 hg)⟩
  | alt a b iha ihb => intro Q Q' h env w hw; exact ⟨iha h hw.1, ihb h hw.2⟩
  | sq a k iha ihk => intro Q Q' h env w hw; exact iha (thn_imp (fun env w => ihk h) h) hw
  | ite c a b k iha ihb ihk =>
    intro Q Q' h env w hw
    exact ⟨hw.1, fun hg => iha (thn_imp (fun env w => ihk h) h) (hw.2.1 hg), fun hg => ihb (thn_imp (fun env w => ihk h) h) (hw.2.2 hg)⟩
  | blk id a k iha ihk =>
    intro Q Q' h env w hw
    refine iha ?_ hw
    intro x env w hq
    cases x with
    | normal => exact ihk h hq
    | exit i =>
      simp only [inBlk] at hq ⊢
      split
      · rename_i hi; rw [if_pos hi] at hq; exact ihk h hq
      · rename_i hi; rw [if_neg hi] at hq; exact h _ _ _ hq
    | _ => exact h _ _ _ hq
  | loop a iha =>
    intro Q Q' h env w hw
    obtain ⟨I, n, h0, hr⟩ := hw
    exact ⟨I, n, h0, fun n env w hI => iha (thn_imp (fun _ _ h => h) h) (hr n env w hI)⟩
  | exit id => intro Q Q' h env w hw; exact h _ _ _ hw
  | ret => intro Q Q' h env w hw; exact h _ _ _ hw

section
variable {P : Program} {Q : Exit → Env → World → Prop} {env : Env} {w : World} {k : S}
/-- Both ways meet in J. -/
theorem ite_cut {c : E} {a b : S} {t : Bool} (J : Env → World → Prop) (hc : c.ev env w = .bool t) (ha : t = true → a.wp P (thn J Q) env w) (hb : t = false → b.wp P (thn J Q) env w) (hk : ∀ env w, J env w → k.wp P Q env w) : (S.ite c a b k).wp P Q env w :=
  ite_r hc (fun h => wp_weaken a (thn_imp hk (fun _ _ _ h => h)) (ha h)) (fun h => wp_weaken b (thn_imp hk (fun _ _ _ h => h)) (hb h))
theorem sq_cut {a : S} (J : Env → World → Prop) (ha : a.wp P (thn J Q) env w) (hk : ∀ env w, J env w → k.wp P Q env w) : (S.sq a k).wp P Q env w :=
  wp_weaken a (thn_imp hk (fun _ _ _ h => h)) ha
theorem ifg_cut {g : E} {want : Bool} {a b : S} {t : Bool} (J : Env → World → Prop) (hg : g.ev env w = .bool t) (ha : t = want → a.wp P (thn J Q) env w) (hb : t ≠ want → b.wp P (thn J Q) env w) (hk : ∀ env w, J env w → k.wp P Q env w) : (S.ifg g want a b k).wp P Q env w :=
  ifg_r hg (fun h => wp_weaken a (thn_imp hk (fun _ _ _ h => h)) (ha h)) (fun h => wp_weaken b (thn_imp hk (fun _ _ _ h => h)) (hb h))
theorem loop_w {id : Nat} {a : S} (I : Nat → Env → World → Prop) (n : Nat) (J : Env → World → Prop) (h0 : I n env w) (hr : ∀ n env w, I n env w → a.wp P (thn (fun env' w' => ∃ m, m < n ∧ I m env' w') (inBlk id J Q)) env w)
    (hk : ∀ env w, J env w → k.wp P Q env w) : (S.blk id (.loop a) k).wp P Q env w :=
  loop_r I n h0 fun n env w hI => wp_weaken a (thn_imp (fun _ _ h => h) (by
    intro x env w hq
    cases x with
    | normal => exact hk _ _ hq
    | exit i =>
      simp only [inBlk] at hq ⊢
      split
      · rename_i hi; rw [if_pos hi] at hq; exact hk _ _ hq
      · rename_i hi; rw [if_neg hi] at hq; exact hq
    | _ => exact hq)) (hr n env w hI)
end

section simps
variable {k k' : IntKind} {n m : Int} {b : Bool} {a : Addr} {oa : Option Addr} {l c : Nat} {vs : Array Value} {s : ByteArray} {w : World}
@[simp] theorem asI_int : asI (.int k n) = n := rfl
@[simp] theorem asB_bool : asB (.bool b) = b := rfl
@[simp] theorem asA_ptr : asA (.pointer (some a)) = a := rfl
@[simp] theorem asS_string : asS (.string s) = s := rfl
@[simp] theorem isI_int : isI k (.int k' n) = (k' = k) := rfl
@[simp] theorem isInt_int : isInt (.int k n) = True := rfl
@[simp] theorem isB_bool : isB (.bool b) = True := rfl
@[simp] theorem isP_ptr : isP (.pointer (some a)) = True := rfl
@[simp] theorem isPtr_ptr : isPtr (.pointer oa) = True := rfl
@[simp] theorem isS_slice : isS (.slice oa l c) = True := rfl
@[simp] theorem isStr_string : isStr (.string s) = True := rfl
@[simp] theorem isAg_agg : isAg (.agg vs) = True := rfl
@[simp] theorem isTu_tuple : isTu (.tuple vs) = True := rfl
@[simp] theorem slA_slice : slA (.slice oa l c) = oa := rfl
@[simp] theorem slL_slice : slL (.slice oa l c) = l := rfl
@[simp] theorem slC_slice : slC (.slice oa l c) = c := rfl
@[simp] theorem slB_slice : slB (.slice oa l c) = oa.getD default := rfl
@[simp] theorem agC_agg : agC (.agg vs) = vs := rfl
@[simp] theorem tuC_tuple : tuC (.tuple vs) = vs := rfl
@[simp] theorem notNil_ptr : notNil (.pointer (some a)) = True := rfl
@[simp] theorem ptrNil_none : ptrNil (.pointer none) = true := rfl
@[simp] theorem ptrNil_some : ptrNil (.pointer (some a)) = false := rfl
@[simp] theorem slNil_none : slNil (.slice none l c) = true := rfl
@[simp] theorem slNil_some : slNil (.slice (some a) l c) = false := rfl
@[simp] theorem isBool_bool {want : Bool} : isBool (.bool b) want = (b == want) := rfl
@[simp] theorem one1_int : one1 (.int k n) = true := rfl
@[simp] theorem one1_bool : one1 (.bool b) = true := rfl
@[simp] theorem one1_ptr : one1 (.pointer oa) = true := rfl
@[simp] theorem one1_slice : one1 (.slice oa l c) = true := rfl
@[simp] theorem one1_string : one1 (.string s) = true := rfl
@[simp] theorem rho_const {mm : List (Nat × E)} {env : Env} {v : Value} : rhoOf mm env w (.const v) = v := rfl
@[simp] theorem rho_tmp_cons {mm : List (Nat × E)} {env : Env} {t t' : Nat} {e : E} : rhoOf ((t', e) :: mm) env w (.tmp t) = if t' = t then e.ev env w else rhoOf mm env w (.tmp t) := by
  by_cases h : t' = t
  · subst h; simp [rhoOf, List.find?_cons]
  · have : (t' == t) = false := by simpa using h
    simp only [rhoOf, List.find?_cons, this, if_neg h]
@[simp] theorem proms_nil {env : Env} {w' : World} : promsOk [] env w w' = True := rfl
@[simp] theorem proms_cons {p : PrE} {r : List PrE} {env : Env} {w' : World} : promsOk (p :: r) env w w' = (promOk p env w w' ∧ promsOk r env w w') := rfl
end simps
attribute [simp] wp_nil wp_chk wp_set wp_draw wp_exit wp_ret' thn_normal thn_exit thn_ret inBlk_normal inBlk_exit inBlk_ret postF_ret postF_normal oks_nil oks_cons evs_nil evs_cons pack_one pack_nil pack_two
  upd_apply env0_apply updo_some updo_none cell_drew heap_drew frozen_drew add_mk add_zero
attribute [simp] E.ev E.ok U.val U.ok B.val B.ok cmpi arith

theorem tmod_nn {x y : Int} (h : 0 ≤ x) : x.tmod y = x % y := Int.tmod_eq_emod_of_nonneg h
theorem tdiv_nn {x y : Int} (h : 0 ≤ x) : x.tdiv y = x / y := Int.tdiv_eq_ediv_of_nonneg h
theorem wrap_i64 {x : Int} (h : -9223372036854775808 ≤ x) (h' : x ≤ 9223372036854775807) : IntKind.i64.wrap x = x := by
  unfold IntKind.wrap IntKind.bits IntKind.signed
  simp only [Bool.true_and, decide_eq_true_eq]
  split <;> omega
theorem wrap_u64 {x : Int} (h : 0 ≤ x) (h' : x ≤ 18446744073709551615) : IntKind.u64.wrap x = x := by
  unfold IntKind.wrap IntKind.bits IntKind.signed
  simp only [Bool.false_and, Bool.false_eq_true, if_false]
  omega
theorem wrap_u8 {x : Int} (h : 0 ≤ x) (h' : x ≤ 255) : IntKind.u8.wrap x = x := by
  unfold IntKind.wrap IntKind.bits IntKind.signed
  simp only [Bool.false_and, Bool.false_eq_true, if_false]
  omega

/-- Bits of numbers that are not negative. -/
theorem ofInt_nat (n m : Nat) : BitVec.ofInt n (m : Int) = BitVec.ofNat n m := by simp
theorem bitw_and {k : IntKind} {x y : Nat} (hx : x < 2 ^ k.bits) (hy : y < 2 ^ k.bits) : bitw .and k x y = k.wrap ((x &&& y : Nat) : Int) := by
  simp only [bitw, ofInt_nat, BitVec.toNat_and, BitVec.toNat_ofNat, Nat.mod_eq_of_lt hx, Nat.mod_eq_of_lt hy]
theorem bitw_or {k : IntKind} {x y : Nat} (hx : x < 2 ^ k.bits) (hy : y < 2 ^ k.bits) : bitw .or k x y = k.wrap ((x ||| y : Nat) : Int) := by
  simp only [bitw, ofInt_nat, BitVec.toNat_or, BitVec.toNat_ofNat, Nat.mod_eq_of_lt hx, Nat.mod_eq_of_lt hy]
theorem bitw_xor {k : IntKind} {x y : Nat} (hx : x < 2 ^ k.bits) (hy : y < 2 ^ k.bits) : bitw .xor k x y = k.wrap ((x ^^^ y : Nat) : Int) := by
  simp only [bitw, ofInt_nat, BitVec.toNat_xor, BitVec.toNat_ofNat, Nat.mod_eq_of_lt hx, Nat.mod_eq_of_lt hy]
theorem bitw_and1 {k : IntKind} {x : Nat} (hx : x < 2 ^ k.bits) : bitw .and k x 1 = ((x % 2 : Nat) : Int) := by
  have h1 : (1 : Nat) < 2 ^ k.bits := by cases k <;> decide
  have := bitw_and (k := k) hx h1
  rw [show ((1 : Nat) : Int) = 1 from rfl, Nat.and_one_is_mod] at this
  rw [this]
  have h2 : x % 2 = 0 ∨ x % 2 = 1 := by omega
  rcases h2 with h | h <;> rw [h] <;> cases k <;> decide
theorem wrap_nat_u8 {n : Nat} (h : n < 256) : IntKind.u8.wrap (n : Int) = n := wrap_u8 (by omega) (by omega)
theorem wrap_nat_u64 {n : Nat} (h : n < 18446744073709551616) : IntKind.u64.wrap (n : Int) = n := wrap_u64 (by omega) (by omega)
theorem shr_nat (k : IntKind) (x y : Nat) (h : y ≤ k.bits) : shr k x y = ((x / 2 ^ y : Nat) : Int) := by
  simp only [shr, Int.toNat_natCast, Nat.min_eq_left h]
  rw [Int.fdiv_eq_ediv_of_nonneg _ (by exact_mod_cast Nat.zero_le _)]
  norm_cast
theorem shl_nat (k : IntKind) (x y : Nat) (h : y ≤ k.bits) : shl k x y = k.wrap ((x * 2 ^ y : Nat) : Int) := by
  simp only [shl, Int.toNat_natCast, Nat.min_eq_left h]
  norm_cast

end Go.Proofs.Ytgjnfajdejkkjaa.VG

/-! ## VG, part N: more rules: a whole block stored; cells loaded in a row. -/
namespace Go.Proofs.Ytgjnfajdejkkjaa.VG
open Go
set_option linter.unusedSimpArgs false
set_option linter.unusedVariables false
set_option maxRecDepth 20000

theorem put_blk {b : Nat} {el : TypeId} : ∀ (l : List Value) (i : Nat) (w : World) (c : Array Value), w.heap[b]? = some (.cells c el (0, 0)) → i + l.length ≤ c.size →
    (putCells w ⟨b, 0, none⟩ i l).heap[b]? = some (.cells (c.toList.take i ++ l ++ c.toList.drop (i + l.length)).toArray el (0, 0)) ∧ Mod (fun k => k = b) w (putCells w ⟨b, 0, none⟩ i l) ∧ (putCells w ⟨b, 0, none⟩ i l).heap.size = w.heap.size
  | [], i, w, c, h, hl => by
    simp only [putCells, List.append_nil, List.length_nil, Nat.add_zero, List.take_append_drop]
    exact ⟨by simpa using h, Mod.refl _ _, trivial⟩
  | v :: r, i, w, c, h, hl => by
    simp only [List.length_cons] at hl
    have hb : (w.setCell ((⟨b, 0, none⟩ : Addr).add i) v).heap[b]? = some (.cells (c.setIfInBounds i v) el (0, 0)) := by
      simp only [add_mk, World.setCell, Array.getElem?_modify, if_true, h, Option.map_some]
      simp
    have hm : Mod (fun k => k = b) w (w.setCell ((⟨b, 0, none⟩ : Addr).add i) v) := ⟨rfl, rfl, rfl, by simp [World.setCell], fun k hk hn => by
      rw [add_mk]; exact RowKit.Below.heap_setCell w _ _ _ hn⟩
    obtain ⟨h1, h2, h3⟩ := put_blk r (i + 1) _ _ hb (by simp; omega)
    simp only [putCells]
    refine ⟨?_, hm.tr h2, by rw [h3]; simp [World.setCell]⟩
    rw [h1]
    have : List.take (i + 1) (c.setIfInBounds i v).toList ++ r ++ List.drop (i + 1 + r.length) (c.setIfInBounds i v).toList = List.take i c.toList ++ v :: r ++ List.drop (i + (r.length + 1)) c.toList := by
      rw [Array.toList_setIfInBounds]
      have hil : i < c.toList.length := by simp; omega
      rw [List.drop_set_of_lt (by omega), show i + 1 + r.length = i + (r.length + 1) by omega]
      congr 1
      rw [List.take_add_one, List.take_set, List.set_eq_of_length_le (by simp; omega)]
      simp only [List.append_assoc, List.append_cancel_left_eq]
      rw [List.getElem?_set_self hil]
      rfl
    rw [List.length_cons, this]

section
variable {P : Program} {Q : Exit → Env → World → Prop} {env : Env} {w : World} {k : S}
theorem blk_cut {id : Nat} {a : S} (J : Env → World → Prop) (ha : a.wp P (inBlk id J Q) env w) (hk : ∀ env w, J env w → k.wp P Q env w) : (S.blk id a k).wp P Q env w := by
  refine wp_weaken a ?_ ha
  intro x env w hq
  cases x with
  | normal => exact hk _ _ hq
  | exit i =>
    simp only [inBlk] at hq ⊢
    split
    · rename_i hi; rw [if_pos hi] at hq; exact hk _ _ hq
    · rename_i hi; rw [if_neg hi] at hq; exact hq
  | _ => exact hq

/-- A value of n cells, stored over a whole block. -/
theorem st_all {a e : E} {pr : List PrE} {b n : Nat} {c : Array Value} {el : TypeId} {v : Value} (ha : a.ev env w = .pointer (some ⟨b, 0, none⟩)) (he : e.ev env w = v) (h : w.heap[b]? = some (.cells c el (0, 0))) (hn : v.cells.size = n) (hc : c.size = n)
    (h1 : ∀ x ∈ v.cells.toList, one1 x = true) (hk : ∀ w', w'.heap[b]? = some (.cells v.cells el (0, 0)) → Mod (fun k => k = b) w w' → w'.heap.size = w.heap.size → promsOk pr env w w' ∧ k.wp P Q env w') :
    (S.st n a e pr k).wp P Q env w := by
  show storeWp n (a.ev env w) (e.ev env w) w _
  rw [ha, he]
  obtain ⟨q1, q2, q3⟩ := put_blk v.cells.toList 0 w c h (by simp; omega)
  refine ⟨trivial, hn, fun j hj => ?_, h1, hk _ ?_ q2 q3⟩
  · simp only [asA, add_mk, cell_blk h, frozen_blk h]
    exact ⟨by simp; omega, trivial⟩
  · simp only [asA]
    rw [q1]
    have : List.drop (0 + v.cells.toList.length) c.toList = [] := by rw [List.drop_eq_nil_iff]; simp; omega
    rw [this]
    simp
end

end Go.Proofs.Ytgjnfajdejkkjaa.VG
