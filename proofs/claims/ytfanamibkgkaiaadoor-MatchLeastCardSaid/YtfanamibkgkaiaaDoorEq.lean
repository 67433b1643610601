/-
  VG, part Eq: structs and arrays compared.
-/
import Derived.Test.YtfanamibkgkaiaaDoorHq
import Derived.Laws.StructEq
import Derived.ChangeKeysEq
namespace Go.Proofs.YtfanamibkgkaiaaDoor.VG
open Go
set_option linter.unusedSimpArgs false
set_option linter.unusedVariables false
set_option maxRecDepth 20000

section
variable {P : Program} {Q : Exit → Env → World → Prop} {env : Env} {w : World} {k : S}

theorem eq_r {x : Option Nat} {t ty' ty : TypeId} {a b : Operand} {m : List (Nat × E)} {pr : List PrE} {xs ys : Array Value} {r : Bool} (hg : P.eqGuardType P.depth t = false)
    (ha : rhoOf m env w a = .agg xs) (hb : rhoOf m env w b = .agg ys) (he : (Op.equalIn 10000 t (.agg xs) (.agg ys)).run P w = .ok r w) (hk : promsOk pr env w w ∧ k.wp P Q (updo env x (.bool r)) w) :
    (S.op x (.binOp .eql t a b ty') ty m pr k).wp P Q env w := by
  show uponK P _ ((execOp (rhoOf m env w) (opOf (.binOp .eql t a b ty') ty)).run P w)
  have : (execOp (rhoOf m env w) (opOf (.binOp .eql t a b ty') ty)).run P w = .ok (.value (.bool r)) w := by
    simp only [execOp, opOf, ha, hb, run_bind, run_eqGuard_agg w .eql t a b xs ys hg, run_eql_struct w t xs ys, he, Result.andThen, run_pure]
  rw [this]
  exact hk
theorem ne_r {x : Option Nat} {t ty' ty : TypeId} {a b : Operand} {m : List (Nat × E)} {pr : List PrE} {xs ys : Array Value} {r : Bool} (hg : P.eqGuardType P.depth t = false)
    (ha : rhoOf m env w a = .agg xs) (hb : rhoOf m env w b = .agg ys) (he : (Op.equalIn 10000 t (.agg xs) (.agg ys)).run P w = .ok r w) (hk : promsOk pr env w w ∧ k.wp P Q (updo env x (.bool (!r))) w) :
    (S.op x (.binOp .neq t a b ty') ty m pr k).wp P Q env w := by
  show uponK P _ ((execOp (rhoOf m env w) (opOf (.binOp .neq t a b ty') ty)).run P w)
  have : (execOp (rhoOf m env w) (opOf (.binOp .neq t a b ty') ty)).run P w = .ok (.value (.bool (!r))) w := by
    simp only [execOp, opOf, ha, hb, run_bind, run_eqGuard_agg w .neq t a b xs ys hg, run_neq_struct w t xs ys, he, Result.andThen, run_pure]
  rw [this]
  exact hk

theorem run_part1 {e : TypeId} {d : TypeDesc} (hd : P.underlying e = some d) (hag : isAggD d = false) (cs : Array Value) (i : Nat) (h : i < cs.size) : (part e cs i).run P w = .ok (cs.getD i undef) w := by
  simp [part, run_bind, run_isAgg hd, hag, run_pure, h]

theorem eqItems_ints {e : TypeId} {kd : IntKind} (he : P.underlying e = some (.int kd)) (d : Nat) (l m : List Int) : ∀ is : List Nat, (∀ i ∈ is, i < l.length ∧ i < m.length) →
    (Op.eqItems (d + 1) e 1 (intsV l).toArray (intsV m).toArray is).run P w = .ok (is.all fun i => gi l i == gi m i) w
  | [], _ => rfl
  | i :: is, h => by
    obtain ⟨h1, h2⟩ := h i (List.mem_cons_self ..)
    have g1 : (intsV l).toArray.getD i undef = .int .i64 (gi l i) := by simp [intsV, gi, h1]
    have g2 : (intsV m).toArray.getD i undef = .int .i64 (gi m i) := by simp [intsV, gi, h2]
    simp only [Op.eqItems, Nat.mul_one]
    rw [run_bind, run_part1 he rfl _ i (by simp [intsV, h1])]
    simp only []
    rw [run_bind, run_part1 he rfl _ i (by simp [intsV, h2])]
    simp only []
    rw [run_bind, g1, g2, run_equalIn_int w d e .i64 kd _ _ he]
    simp only [List.all_cons]
    cases hq : (gi l i == gi m i)
    · simp [run_pure]
    · simp only [Bool.not_true, Bool.false_eq_true, if_false, Bool.true_and]
      exact eqItems_ints he d l m is (fun j hj => h j (List.mem_cons_of_mem _ hj))

theorem list_eq_gi (l m : List Int) (h : l.length = m.length) : ((List.range l.length).all fun i => gi l i == gi m i) = (l == m) := by
  rw [Bool.eq_iff_iff, List.all_eq_true, beq_iff_eq]
  constructor
  · intro hq
    apply List.ext_getElem h
    intro i h1 h2
    have := hq i (List.mem_range.2 h1)
    simpa [gi, h1, h2] using this
  · rintro rfl i _
    simp

/-- Arrays of integers. -/
theorem eq_arr {t e : TypeId} {kd : IntKind} {n : Nat} {i : TypeInfo} (ht : P.underlying t = some (.array n e)) (hi : P.info? e = some i) (he : P.underlying e = some (.int kd)) (hc : P.cellsOf e = 1) (l m : List Int) (hl : l.length = n) (hm : m.length = n) :
    (Op.equalIn 10000 t (.agg (intsV l).toArray) (.agg (intsV m).toArray)).run P w = .ok (l == m) w := by
  rw [show (10000 : Nat) = 9999 + 1 from rfl, run_equalIn_array w 9999 _ _ ht hi, hc, show (9999 : Nat) = 9998 + 1 from rfl, eqItems_ints he 9998 l m _ (fun j hj => by have := List.mem_range.1 hj; omega), ← hl, list_eq_gi l m (by omega)]
end

end Go.Proofs.YtfanamibkgkaiaaDoor.VG
