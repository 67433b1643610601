/-
  Match: tokens compared; what is known.
-/
import Derived.Test.YtfanamibkgkaiaaDoorDe
import Derived.Test.YtfanamibkgkaiaaDoorEq
namespace Go.Proofs.YtfanamibkgkaiaaDoor.VG
open Go
set_option linter.unusedSimpArgs false
set_option linter.unusedVariables false
set_option maxRecDepth 20000

theorem eq_tok {w : World} (x y : Int × Int × Int) : (Op.equalIn 10000 47 (tokV x) (tokV y)).run Tryd.prog w = .ok (x == y) w := by
  have hS : Tryd.prog.underlying 47 = some (.struct (Tryd.prog.fieldsOf 47)) := by kernel_rfl
  have hp : Tryd.prog.stoodInHeld 47 = false := by kernel_rfl
  have p0 : ∀ (z : Int × Int × Int), (part 3 #[Value.int .i64 z.1, .int .i64 z.2.1, .int .i64 z.2.2] 0).run Tryd.prog w = .ok (.int .i64 z.1) w := fun z => run_part1 uPi rfl _ 0 (by simp)
  have p1 : ∀ (z : Int × Int × Int), (part 3 #[Value.int .i64 z.1, .int .i64 z.2.1, .int .i64 z.2.2] 1).run Tryd.prog w = .ok (.int .i64 z.2.1) w := fun z => run_part1 uPi rfl _ 1 (by simp)
  have p2 : ∀ (z : Int × Int × Int), (part 3 #[Value.int .i64 z.1, .int .i64 z.2.1, .int .i64 z.2.2] 2).run Tryd.prog w = .ok (.int .i64 z.2.2) w := fun z => run_part1 uPi rfl _ 2 (by simp)
  unfold tokV
  rw [show (10000 : Nat) = 9999 + 1 from rfl, run_equalIn_agg w 9999 _ _ _ hS hp]
  obtain ⟨f0, f1, f2, hf, n0, n1, n2, t0, t1, t2, o0, o1, o2⟩ : ∃ f0 f1 f2 : Field, (Tryd.prog.fieldsOf 47).toList = [f0, f1, f2] ∧ f0.name ≠ "_" ∧ f1.name ≠ "_" ∧ f2.name ≠ "_" ∧ f0.type = 3 ∧ f1.type = 3 ∧ f2.type = 3 ∧ f0.offset = 0 ∧ f1.offset = 1 ∧ f2.offset = 2 :=
    ⟨_, _, _, rfl, by decide, by decide, by decide, rfl, rfl, rfl, rfl, rfl, rfl⟩
  have q : ∀ (a b : Int), (Op.equalIn 9999 3 (.int .i64 a) (.int .i64 b)).run Tryd.prog w = .ok (a == b) w := fun a b => by rw [show (9999 : Nat) = 9998 + 1 from rfl]; exact run_equalIn_int w 9998 _ .i64 .i64 a b uPi
  rw [hf]
  simp only [Op.eqFields, t0, t1, t2, o0, o1, o2, if_pos n0, if_pos n1, if_pos n2]
  rw [run_bind, p0]
  simp only []
  rw [run_bind, p0]
  simp only []
  rw [run_bind, q]
  have hxy : (x == y) = (x.1 == y.1 && (x.2.1 == y.2.1 && x.2.2 == y.2.2)) := rfl
  rw [hxy]
  cases h0 : (x.1 == y.1)
  · simp [run_pure]
  simp only [Bool.not_true, Bool.false_eq_true, if_false, Bool.true_and]
  rw [run_bind, p1]
  simp only []
  rw [run_bind, p1]
  simp only []
  rw [run_bind, q]
  cases h1 : (x.2.1 == y.2.1)
  · simp [run_pure]
  simp only [Bool.not_true, Bool.false_eq_true, if_false, Bool.true_and]
  rw [run_bind, p2]
  simp only []
  rw [run_bind, p2]
  simp only []
  rw [run_bind, q]
  cases h2 : (x.2.2 == y.2.2)
  · simp [run_pure]
  · simp [run_pure]

section
variable {F G : Nat → Prop} {w : World} {v u : Value} {A B : List (Int × Int × Int)}
set_option maxHeartbeats 4000000 in
theorem tokens_c (h : Rd F w v A.length (toksV A)) (k : Rd G w u B.length (toksV B)) (hl : A.length ≤ 1000000) : Calls Tryd.prog 25 [v, u].toArray w (Ret fun r w' => r = .bool (A == B) ∧ Mod none' w w') := by
  refine F_sound c25 (by simp [fc25]) ?_
  obtain ⟨hS, hL⟩ := h.sl
  obtain ⟨kS, kL⟩ := k.sl
  simp [fc25, s25, hS, hL, kS, kL]
  by_cases hlm : A.length = B.length
  · refine ite_r (t := false) (by simp [hlm]) (fun h => by cases h) (fun _ => ?_)
    simp
    refine for_r A.length (fun i env' w' => env' 0 = v ∧ env' 1 = u ∧ env' 5 = .int .i64 i ∧ Mod none' w w' ∧ A.take i = B.take i) ?_ ?_ ?_
    · simp [Mod.refl]
    · rintro i env w' hi ⟨e0, e1, e5, hm, ha⟩
      have wi : IntKind.i64.wrap ((i : Int) + 1) = ((i + 1 : Nat) : Int) := by rw [wI (by omega) (by omega)]; omega
      have hi' : i < B.length := by omega
      have ex : A[i]? = some A[i] := List.getElem?_eq_getElem hi
      have ey : B[i]? = some B[i] := List.getElem?_eq_getElem hi'
      have ta := tok_at (h.at hm.drew) ex
      have tb := tok_at (k.at hm.drew) ey
      have pa := tok_ptr h (by omega)
      have pb := tok_ptr k (by omega)
      generalize A[i] = x at *
      generalize B[i] = y at *
      obtain ⟨a1, a2⟩ := And.intro ta.cs ta.ok
      obtain ⟨b1, b2⟩ := And.intro tb.cs tb.ok
      simp only [cellsFrom_drew, cell_drew] at a1 a2 b1 b2
      simp [e0, e5, hS, hL]
      refine ite_r (t := true) (by simp [hi]) (fun _ => ?_) (fun h => by cases h)
      simp [wp_blk, e0, e1, e5, hS, hL, kS, kL, pa, pb, a1, b1, hi, hi']
      refine ⟨a2, b2, ?_⟩
      refine ne_r (xs := #[.int .i64 x.1, .int .i64 x.2.1, .int .i64 x.2.2]) (ys := #[.int .i64 y.1, .int .i64 y.2.1, .int .i64 y.2.2]) (by kernel_rfl) (by simp [tokC]) (by simp [tokC]) (eq_tok x y) ⟨trivial, ?_⟩
      by_cases he : x = y
      · subst he
        refine ite_r (t := false) (by simp) (fun h => by cases h) (fun _ => ?_)
        simp [-Int.natCast_add, e0, e1, e5, wi]
        exact ⟨by omega, hm.drew, by rw [List.take_add_one, List.take_add_one, ha, ex, ey]⟩
      · refine ite_r (t := true) (by simp [he]) (fun _ => ?_) (fun h => by cases h)
        simp
        refine ⟨?_, hm.drew⟩
        rintro rfl
        rw [ex] at ey
        exact he (Option.some.inj ey)
    · rintro env w' ⟨e0, e1, e5, hm, ha⟩
      simp [e0, e5, hS, hL]
      refine ite_r (t := false) (by simp) (fun h => by cases h) (fun _ => ?_)
      rw [List.take_length, hlm, List.take_length] at ha
      simp [ha, hm]
  · refine ite_r (t := true) (by simp; omega) (fun _ => ?_) (fun h => by cases h)
    simp [Mod.refl]
    rintro rfl
    exact hlm rfl
end

end Go.Proofs.YtfanamibkgkaiaaDoor.VG
