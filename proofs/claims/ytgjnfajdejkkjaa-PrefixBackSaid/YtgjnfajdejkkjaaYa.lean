/-
  append of so many zeros: in place or in a new block; a call of a function value with one argument.
-/
import Derived.Lib.AppendZerosOnto
import Derived.Test.YtgjnfajdejkkjaaWd
import Derived.Test.YtgjnfajdejkkjaaHo
import Derived.Test.YtgjnfajdejkkjaaCm
import Derived.Test.YtgjnfajdejkkjaaKe
namespace Go.Proofs.Ytgjnfajdejkkjaa.VG
open Go
set_option linter.unusedSimpArgs false
set_option linter.unusedVariables false
set_option maxRecDepth 20000

section
variable {P : Program} (w : World)
theorem run_append_room_z (t tn ty e : TypeId) (i : TypeInfo) (z : Value) (kq kn : IntKind) (ht : P.underlying t = some (.slice e)) (htn : P.underlying tn = some (.int kn)) (hi : P.info? e = some i) (hz : i.zero = some z)
    (g sLen sCap : Nat) (cur : Array Value) (hg : w.heap[g]? = some (.cells cur e (0, 0))) (k : Nat) (h0 : 0 < k) (hs : 0 < i.size) (h63 : (k : Int) ≤ 9223372036854775807) (h48 : k * i.bytes ≤ 281474976710656)
    (h1 : ∀ u ∈ (Builtin.zeroCells z.cells k).toList, u.oneCell' = true) (hroom : sLen + k ≤ sCap) (hfit : sLen * i.size + (Builtin.zeroCells z.cells k).toList.length ≤ cur.size) :
    (Builtin.append_ #[t, tn] ty #[.slice (some ⟨g, 0, none⟩) sLen sCap, .int kq k]).run P w =
      .ok (.slice (some ⟨g, 0, none⟩) (sLen + k) sCap) (w.setRow g (cur.toList.take (sLen * i.size) ++ (Builtin.zeroCells z.cells k).toList ++ cur.toList.drop (sLen * i.size + (Builtin.zeroCells z.cells k).toList.length)).toArray) := by
  have hst := run_storeCells_at P g (sLen * i.size) e (Builtin.zeroCells z.cells k).toList 0 cur w hg (by simpa using hfit) h1
  simp only [Nat.add_zero] at hst
  have hk : k ≠ 0 := by omega
  have hw : IntKind.i64.wrap (k : Int) = k := by rw [IntKind.wrap_i64]; omega
  have h48i : ¬ (281474976710656 < (k : Int) * (i.bytes : Int)) := by
    rw [← Int.natCast_mul]
    omega
  have hneg : ¬ ((k : Int) < 0) := by omega
  have hns : ¬ (k * i.size = 0) := Nat.mul_ne_zero hk (by omega)
  simp only [Array.length_toList] at hst
  simp [Builtin.append_, Go.run_underlying ht, Go.run_underlying htn, sizeOf, typeInfo, zeroValue, hi, hz, asInt, asIntOf, hw, hneg, hns, h48i, hroom, Addr.add_lit, hst]
end

theorem zc_int (k : Nat) : (Builtin.zeroCells (Value.int .i64 0).cells k).toList = List.replicate k (.int .i64 0) := by
  apply List.ext_getElem
  · simp [Builtin.zeroCells, Value.cells]
  · intro i h1 h2
    simp [Builtin.zeroCells, Value.cells, Nat.mod_one]

/-- append(own ints, make([]int, k)...). -/
theorem appz_own (w : World) {ty : TypeId} {v : Value} {n : Nat} {xs : List Value} (hown : w.ownsRow 0 3 1 v n xs) (k : Nat) (h0 : 0 < k) (hnk : n + k ≤ 1000000) :
    ∃ v' w', (Builtin.append_ #[22, 3] ty #[v, .int .i64 k]).run Try.prog w = .ok v' w' ∧ w'.ownsRow 0 3 1 v' (n + k) (xs ++ List.replicate k (.int .i64 0)) ∧ Mod (fun b => v.ownBlock = some b) w w' ∧
      (v'.ownBlock = v.ownBlock ∨ v'.ownBlock = some w.heap.size) := by
  obtain ⟨i, z, hi, hz, hsz, hby, hzs⟩ := slTI.inf
  have hzv : z = .int .i64 0 := zero64 ⟨i, hi, hz⟩
  have htn : Try.prog.underlying 3 = some (.int .i64) := by kernel_rfl
  have hm : maxLen = 9223372036854775807 := rfl
  have hlen : (xs ++ List.replicate k (Value.int .i64 0)).length = (n + k) * 1 := by rw [List.length_append, hown.1, List.length_replicate]; omega
  subst hzv
  have hzl := zc_int k
  have fresh : ∀ (old : Nat), (w.drew.alloc (.cells ((xs ++ List.replicate k (Value.int .i64 0)).toArray ++ Builtin.zeroCells (Value.int .i64 0).cells (grownCap w (n + k) old 3 - (n + k))) 3)).ownsRow 0 3 1
        (.slice (some ⟨w.heap.size, 0, none⟩) (n + k) (grownCap w (n + k) old 3)) (n + k) (xs ++ List.replicate k (.int .i64 0)) ∧ Mod (fun k => v.ownBlock = some k) w (w.drew.alloc (.cells ((xs ++ List.replicate k (Value.int .i64 0)).toArray ++ Builtin.zeroCells (Value.int .i64 0).cells (grownCap w (n + k) old 3 - (n + k))) 3)) := by
    intro old
    refine ⟨⟨hlen, .inr ⟨w.heap.size, grownCap w (n + k) old 3, _, rfl, Nat.zero_le _, (newBlk w.drew _ _).1, grownCap_ge _ _ _ _, grownCap_le_maxLen _ _ _ _ (by omega), ?_, ?_⟩⟩, ⟨rfl, rfl, rfl, by simp, fun k hk _ => (newBlk w.drew _ _).2.1.block k hk (fun h => h)⟩⟩
    · have := grownCap_ge w (n + k) old 3
      rw [Array.size_append, List.size_toArray, hlen, size_zeroCells]
      simp [Value.cells]; omega
    · rw [Array.toList_append, ← hlen]
      exact List.take_left
  rcases hown.2 with ⟨rfl, rfl⟩ | ⟨g, cap, cur, rfl, hbg, hg, hnc, hcm, hcs, htake⟩
  · obtain rfl : xs = [] := List.eq_nil_of_length_eq_zero (by simpa using hown.1)
    have hr := Go.Lib.run_append_nil_zeros (P := Try.prog) w 22 3 ty 3 i _ .i64 .i64 slTI.und htn hi hz k h0 (by omega) (by omega) (by rw [hby]; omega)
    have hf := fresh 0
    simp only [Nat.zero_add, List.nil_append] at hf ⊢
    have e1 : Builtin.zeroCells (Value.int .i64 0).cells k = (List.replicate k (Value.int .i64 0)).toArray := Array.ext' (by rw [hzl])
    rw [e1] at hr
    exact ⟨_, _, hr, hf.1, hf.2, .inr rfl⟩
  · by_cases hroom : n + k ≤ cap
    · have hfit : n * i.size + (Builtin.zeroCells (Value.int .i64 0).cells k).toList.length ≤ cur.size := by rw [hzl, List.length_replicate, hcs, hsz]; omega
      have hr := run_append_room_z (P := Try.prog) w 22 3 ty 3 i _ .i64 .i64 slTI.und htn hi hz g n cap cur hg k h0 (by omega) (by omega) (by rw [hby]; omega) (by rw [hzl]; intro u hu; rw [List.eq_of_mem_replicate hu]; rfl) hroom hfit
      rw [hzl, hsz] at hr
      refine ⟨_, _, hr, ⟨hlen, .inr ⟨g, cap, _, rfl, hbg, setRow_heap w g cur _ 3 _ hg, hroom, hcm, ?_, ?_⟩⟩, ⟨rfl, rfl, rfl, by simp, fun k _ hk => setRow_other w g k _ (fun e => hk (by simp [Value.ownBlock, e]))⟩, .inl rfl⟩
      · have h2 := hown.1
        simp only [List.size_toArray, List.length_append, List.length_take, List.length_drop, Array.length_toList, List.length_replicate]
        omega
      · rw [htake, ← hlen]
        exact List.take_left
    · have hold : (Builtin.firstCells i.size n (.slice (some ⟨g, 0, none⟩) n cap)).run Try.prog w.drew = .ok xs.toArray w.drew := run_firstCells_some (P := Try.prog) w.drew i.size n ⟨g, 0, none⟩ n cap xs (by rw [hsz]; exact hown.1) (fun j u hj => by have := hown.cells (g := g) rfl j u hj; simpa using this)
      have hr := Go.Lib.run_append_grow_zeros (P := Try.prog) w 22 3 ty 3 i _ .i64 .i64 slTI.und htn hi hz (some ⟨g, 0, none⟩) n cap xs hold k h0 (by omega) (by omega) (by omega) (by rw [hby]; omega) (growslice_fits (by omega) (by rw [hby]; omega))
      have hf := fresh cap
      have e1 : Builtin.zeroCells (Value.int .i64 0).cells k = (List.replicate k (Value.int .i64 0)).toArray := Array.ext' (by rw [hzl])
      have e2 : xs.toArray ++ (List.replicate k (Value.int .i64 0)).toArray = (xs ++ List.replicate k (Value.int .i64 0)).toArray := by simp
      rw [e1, e2] at hr
      exact ⟨_, _, hr, hf.1, hf.2, .inr rfl⟩

section
variable {Q : Exit → Env → World → Prop} {env : Env} {w W : World} {k : S} {l : List It}
theorem appz_h {x : Option Nat} {s u : Operand} {ty : TypeId} {m : List (Nat × E)} {pr : List PrE} {v : Value} {n c : Nat} {xs : List Value} (j : Nat) (h : Hp W w l) (hj : l[j]? = some (.own 3 1 v n xs)) (h0 : 0 < c) (hnk : n + c ≤ 1000000)
    (hs : rhoOf m env w s = v) (hx : rhoOf m env w u = .int .i64 c)
    (hk : ∀ v' w', Hp W w' (l.set j (.own 3 1 v' (n + c) (xs ++ List.replicate c (.int .i64 0)))) → (pr = [] ∨ promsOk pr env w w') ∧ k.wp Try.prog Q (updo env x v') w') :
    (S.op x (.call ⟨.builtin .append, #[s, u], #[22, 3]⟩) ty m pr k).wp Try.prog Q env w := by
  obtain ⟨F, ⟨hown, rfl⟩, hF, hup⟩ := h.upd j hj
  obtain ⟨v', w', hrun, ho, hmod, hob⟩ := appz_own w (ty := ty) hown c h0 hnk
  show uponK Try.prog _ ((execOp (rhoOf m env w) (opOf (.call ⟨.builtin .append, #[s, u], #[22, 3]⟩) ty)).run Try.prog w)
  have : (execOp (rhoOf m env w) (opOf (.call ⟨.builtin .append, #[s, u], #[22, 3]⟩) ty)).run Try.prog w = .ok (.value v') w' := by
    simp only [execOp, opOf, resolve, run_bind, run_pure, invoke, builtin]
    have harr : Array.map (rhoOf m env w) #[s, u] = #[v, .int .i64 c] := by simp [hs, hx]
    rw [harr, hrun]
  rw [this]
  have H' := hup (.own 3 1 v' (n + c) (xs ++ List.replicate c (.int .i64 0))) w' (fun k => v'.ownBlock = some k) hmod ⟨ho, rfl⟩ (fun k hk' => by
    rcases hob with e | e
    · exact .inl (by rw [← e]; exact hk')
    · refine .inr ?_
      rw [e] at hk'
      simp only [Option.some.injEq] at hk'
      omega)
  obtain ⟨q1, q2⟩ := hk v' w' H'
  refine ⟨?_, q2⟩
  rcases q1 with rfl | q1
  · trivial
  · exact q1
theorem dyn1_r {P : Program} {x : Option Nat} {g : Nat} {lb : Array Value} {c a1 : Operand} {v1 : Value} {tys : Array TypeId} {ty : TypeId} {m : List (Nat × E)} {pr : List PrE} (hc : rhoOf m env w c = .func (.func g) #[] lb) (h1 : rhoOf m env w a1 = v1)
    (hk : uponK P (fun v w' => promsOk pr env w w' ∧ k.wp P Q (updo env x v) w') ((callFunc g (#[v1] ++ lb)).run P w)) : (S.op x (.call ⟨.value c, #[a1], tys⟩) ty m pr k).wp P Q env w := by
  show uponK P _ ((execOp (rhoOf m env w) (opOf (.call ⟨.value c, #[a1], tys⟩) ty)).run P w)
  have : (execOp (rhoOf m env w) (opOf (.call ⟨.value c, #[a1], tys⟩) ty)).run P w = (callFunc g (#[v1] ++ lb)).run P w := by
    simp only [execOp, opOf, resolve, run_bind, run_pure, hc, Deferred.ofValue, invoke, List.map_toArray, List.map_cons, List.map_nil, h1]
    simp
  rw [this]
  exact hk
theorem fn2_r {P : Program} {x : Option Nat} {g : Nat} {c d : Operand} {ty : TypeId} {m : List (Nat × E)} {pr : List PrE} (v u : Value) (hv : rhoOf m env w c = v) (hu : rhoOf m env w d = u)
    (hk : (pr = [] ∨ promsOk pr env w w) ∧ k.wp P Q (updo env x (.func (.func g) #[] #[v, u])) w) : (S.op x (.makeFunc (.func g) #[] #[c, d]) ty m pr k).wp P Q env w := by
  show uponK P _ ((execOp (rhoOf m env w) (opOf (.makeFunc (.func g) #[] #[c, d]) ty)).run P w)
  have : (execOp (rhoOf m env w) (opOf (.makeFunc (.func g) #[] #[c, d]) ty)).run P w = .ok (.value (.func (.func g) #[] #[v, u])) w := by
    simp only [execOp, opOf, Instr.makeFunc, run_bind, run_pure, hv, hu, List.map_toArray, List.map_cons, List.map_nil]
  rw [this]
  refine ⟨?_, hk.2⟩
  rcases hk.1 with rfl | h
  · trivial
  · exact h
end

end Go.Proofs.Ytgjnfajdejkkjaa.VG
