/-
  VG, part Hq: rows written out as literals; whole rows told by their elements.
-/
import Derived.Test.YtajkofndbeohpaaHp
namespace Go.Proofs.Ytajkofndbeohpaa.VG
open Go
set_option linter.unusedSimpArgs false
set_option linter.unusedVariables false

theorem putAt_eq : ∀ (l : List Value) (cs : Array Value) (off : Nat), off + l.length ≤ cs.size → putAt cs off l = (cs.toList.take off ++ l ++ cs.toList.drop (off + l.length)).toArray
  | [], cs, off, h => by simp [putAt]
  | v :: r, cs, off, h => by
    simp only [List.length_cons] at h
    rw [putAt, putAt_eq r _ _ (by simp; omega)]
    congr 1
    rw [Array.toList_setIfInBounds]
    have hil : off < cs.toList.length := by simp; omega
    rw [List.drop_set_of_lt (by omega), show off + 1 + r.length = off + (r.length + 1) by omega, List.length_cons]
    congr 1
    rw [List.take_add_one, List.take_set, List.set_eq_of_length_le (by simp; omega)]
    simp only [List.append_assoc, List.append_cancel_left_eq]
    rw [List.getElem?_set_self hil]
    rfl

theorem fill_seq {size : Nat} : ∀ (es : List Value) (k : Nat) (cs : Array Value), (∀ e ∈ es, e.cells.size = size) → (k + es.length) * size ≤ cs.size →
    Instr.fill (fun j => some (j * size, size)) cs ((es.zipIdx k).map fun p => (p.2, p.1)) = some (cs.toList.take (k * size) ++ es.flatMap (fun e => e.cells.toList) ++ cs.toList.drop ((k + es.length) * size)).toArray
  | [], k, cs, _, _ => by simp [Instr.fill]
  | e :: r, k, cs, he, h => by
    have h1 := he e (List.mem_cons_self ..)
    simp only [List.length_cons] at h
    have h2 : k * size + size ≤ cs.size := by
      rw [show (k + (r.length + 1)) * size = k * size + size + r.length * size by rw [Nat.add_mul, Nat.add_mul]; omega] at h
      omega
    simp only [List.zipIdx_cons, List.map_cons, Instr.fill]
    rw [if_neg (by simp [h1]; omega), ← Array.foldl_toList, Array.toList_zipIdx]
    have hz := zip_fold (k * size) e.cells.toList 0 cs
    simp only [Nat.add_zero] at hz
    have hp := putAt_eq e.cells.toList cs (k * size) (by simp [h1]; omega)
    have e1 : (List.foldl (fun cs (x : Value × Nat) => match x with | (c, j) => cs.setIfInBounds (k * size + j) c) cs e.cells.toList.zipIdx) = putAt cs (k * size) e.cells.toList := hz
    rw [e1, fill_seq r (k + 1) _ (fun e he' => he e (List.mem_cons_of_mem _ he')) (by rw [size_putAt, show (k + 1 + r.length) = (k + (r.length + 1)) by omega]; exact h), hp]
    congr 2
    have hl : e.cells.toList.length = size := by simp [h1]
    have hk1 : (k + 1) * size = k * size + size := by rw [Nat.add_mul]; omega
    have hk2 : (k + 1 + r.length) * size = k * size + size + r.length * size := by rw [Nat.add_mul, Nat.add_mul]; omega
    have hk3 : (k + (r.length + 1)) * size = k * size + size + r.length * size := by rw [← hk2]; congr 1; omega
    have hlen : (cs.toList.take (k * size) ++ e.cells.toList).length = k * size + size := by rw [List.length_append, List.length_take, hl]; simp; omega
    simp only [List.flatMap_cons, List.length_cons]
    rw [hk1, hk2, hk3, List.take_append_of_le_length (by omega), List.take_of_length_le (by omega), List.drop_append, List.drop_eq_nil_of_le (by omega), hlen, hl, List.drop_drop]
    simp only [List.nil_append, List.append_assoc]
    rw [show k * size + size + (k * size + size + r.length * size - (k * size + size)) = k * size + size + r.length * size by omega]

section
variable {P : Program} {Q : Exit → Env → World → Prop} {env : Env} {w W : World} {k : S} {l : List It}

/-- A row written out. -/
theorem bs_h {x : Option Nat} {t e : TypeId} {size bytes : Nat} (T : SlT P t e size bytes) (es : List Value) {n : Nat} {parts : Array (Nat × Operand)} {ty : TypeId} {m : List (Nat × E)} {pr : List PrE} (h : Hp W w l) (hn : n = es.length) (h24 : n * size ≤ 2 ^ 24)
    (hp : (parts.toList.map fun q => (q.1, rhoOf m env w q.2)) = es.zipIdx.map fun p => (p.2, p.1)) (hes : ∀ e ∈ es, e.cells.size = size)
    (hk : ∀ v w', Hp W w' (l ++ [.own e size v n (es.flatMap fun e => e.cells.toList)]) → Mod none' w w' → (pr = [] ∨ promsOk pr env w w') ∧ k.wp P Q (updo env x v) w') :
    (S.op x (.buildSlice t n parts) ty m pr k).wp P Q env w := by
  obtain ⟨i, z, hi, hz, hsz, hby, hzs⟩ := T.inf
  have hmap : (Array.map (fun (q : Nat × Operand) => (q.1, rhoOf m env w q.2)) parts).toList = es.zipIdx.map fun p => (p.2, p.1) := by rw [Array.toList_map]; exact hp
  have hrun : (Instr.buildSlice t n (Array.map (fun (q : Nat × Operand) => (q.1, rhoOf m env w q.2)) parts)).run P w = .ok (.slice (some ⟨w.heap.size, 0, none⟩) n n) (w.alloc (.cells (es.flatMap fun e => e.cells.toList).toArray e)) := by
    have hf : ∀ cs : Array Value, cs.size = n * size → Instr.fill (fun j => some (j * size, size)) cs (Array.map (fun (q : Nat × Operand) => (q.1, rhoOf m env w q.2)) parts).toList = some (es.flatMap fun e => e.cells.toList).toArray := by
      intro cs hcs
      rw [hmap, fill_seq es 0 cs hes (by rw [Nat.zero_add, ← hn, hcs]; exact Nat.le_refl _), Nat.zero_mul, Nat.zero_add, ← hn]
      congr 2
      rw [List.drop_eq_nil_of_le (by simp [hcs])]
      simp
    by_cases h0 : n = 0
    · subst h0
      unfold Instr.buildSlice
      rw [run_bind, run_underlying T.und]
      simp only []
      rw [run_bind, run_sizeOf hi]
      simp only [Nat.zero_mul, if_true]
      rw [if_neg (by omega), run_bind, run_pure]
      simp only []
      have := hf ((Array.range 0).map fun _ => undef) (by simp)
      rw [hsz]
      have e1 : ((Array.range 0).map fun j => ((#[] : Array Value)[j % (#[] : Array Value).size]!)) = (Array.range 0).map fun _ => undef := by simp
      rw [e1, this]
      rfl
    · exact run_buildSlice T n (by omega) h24 _ z hi hz _ (hf _ (size_madeCells _ _)) w
  have hfl : (es.flatMap fun e => e.cells.toList).length = n * size := by
    rw [hn]
    clear hp hmap hrun hn hk
    induction es with
    | nil => simp
    | cons e r ih =>
      rw [List.flatMap_cons, List.length_append, ih (fun e he => hes e (List.mem_cons_of_mem _ he))]
      have := hes e (List.mem_cons_self ..)
      simp only [Array.length_toList, List.length_cons, this]
      rw [Nat.add_mul]; omega
  show uponK P _ ((execOp (rhoOf m env w) (opOf (.buildSlice t n parts) ty)).run P w)
  have hex : (execOp (rhoOf m env w) (opOf (.buildSlice t n parts) ty)).run P w = .ok (.value (.slice (some ⟨w.heap.size, 0, none⟩) n n)) (w.alloc (.cells (es.flatMap fun e => e.cells.toList).toArray e)) := by
    simp only [execOp, opOf, run_bind]
    rw [hrun]
    rfl
  rw [hex]
  obtain ⟨h2, h3, h4⟩ := newBlk w (es.flatMap fun e => e.cells.toList).toArray e
  have hpos := T.pos
  have : Hp W (w.alloc (.cells (es.flatMap fun e => e.cells.toList).toArray e)) (l ++ [.own e size (.slice (some ⟨w.heap.size, 0, none⟩) n n) n (es.flatMap fun e => e.cells.toList)]) := by
    refine h.add (F := fun k => (Value.slice (some ⟨w.heap.size, 0, none⟩) n n).ownBlock = some k) h3 ⟨⟨hfl, .inr ⟨w.heap.size, n, _, rfl, Nat.zero_le _, h2, Nat.le_refl _, ?_, by simp [hfl], ?_⟩⟩, rfl⟩ (fun k hk => ?_)
    · have : n * 1 ≤ n * size := Nat.mul_le_mul_left _ hpos
      unfold maxLen; omega
    · rw [List.take_of_length_le (by simp [hfl])]
    · simp [Value.ownBlock] at hk; omega
  obtain ⟨q1, q2⟩ := hk _ _ this h3
  refine ⟨?_, q2⟩
  rcases q1 with rfl | q1
  · trivial
  · exact q1
end

section
variable {P : Program} {Q : Exit → Env → World → Prop} {env : Env} {w W : World} {k : S} {l : List It}
/-- make([]T, n, n), n elements of zero. -/
theorem mkN_h {x : Option Nat} {t e : TypeId} {size bytes : Nat} (T : SlT P t e size bytes) {a b : Operand} {ty : TypeId} {m : List (Nat × E)} {pr : List PrE} {kl kc : IntKind} {n : Nat} {xs : List Value} (h : Hp W w l)
    (ha : rhoOf m env w a = .int kl n) (hb : rhoOf m env w b = .int kc n) (hby : bytes * n ≤ 281474976710656) (hcm : n ≤ maxLen)
    (hz : ∀ z, (∃ i, P.info? e = some i ∧ i.zero = some z) → (madeCells z.cells (n * size)).toList = xs)
    (hk : ∀ v w', Hp W w' (l ++ [.own e size v n xs]) → Mod none' w w' → (pr = [] ∨ promsOk pr env w w') ∧ k.wp P Q (updo env x v) w') :
    (S.op x (.makeSlice t a b) ty m pr k).wp P Q env w := by
  have hm : maxLen = 9223372036854775807 := rfl
  refine mk_r T ha hb (by omega) (Int.le_refl _) (by omega) (by omega) ?_
  intro b w' z hb hzz hh hm _
  simp only [Int.toNat_natCast] at hh ⊢
  have hxs := hz z hzz
  have : Hp W w' (l ++ [.own e size (.slice (some ⟨b, 0, none⟩) n n) n xs]) := by
    refine h.add (F := fun k => (Value.slice (some ⟨b, 0, none⟩) n n).ownBlock = some k) hm ⟨⟨by rw [← hxs]; simp [size_madeCells], .inr ⟨b, n, _, rfl, Nat.zero_le _, hh, Nat.le_refl _, hcm, by simp [size_madeCells], ?_⟩⟩, rfl⟩ (fun k hk => ?_)
    · rw [← hxs, List.take_of_length_le (by simp [size_madeCells])]
    · simp [Value.ownBlock] at hk
      omega
  obtain ⟨q1, q2⟩ := hk _ w' this hm
  refine ⟨?_, q2⟩
  rcases q1 with rfl | q1
  · trivial
  · exact q1
end

theorem flat_ints (l : List Int) : ((l.map fun n => Value.int .i64 n).flatMap fun e => e.cells.toList) = intsV l := by
  induction l with
  | nil => rfl
  | cons x r ih => simp only [List.map_cons, List.flatMap_cons, ih]; rfl

end Go.Proofs.Ytajkofndbeohpaa.VG
