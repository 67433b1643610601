/-
  What an element counts: its symbols, one by one.
-/
import Derived.Test.YtgjnfajdejkkjaaQd
namespace Go.Proofs.Ytgjnfajdejkkjaa.VG
open Go
set_option linter.unusedSimpArgs false
set_option linter.unusedVariables false
set_option maxRecDepth 20000

def plG (P : List (Int × Int × Option (Nat × Nat))) (i : Nat) : Int × Int × Option (Nat × Nat) := (P[i]?).getD (P.headD (0, 0, none))
theorem plG_nd (S : List Nd) (i : Nat) : plG (S.map plN) i = plN (ndG S i) := by
  unfold plG ndG
  rw [List.getElem?_map]
  cases S with
  | nil => rfl
  | cons a r => cases (a :: r)[i]? <;> rfl
/-- The symbols of an element, by number. -/
def symsF : Nat → List (Int × Int × Option (Nat × Nat)) → Nat → List Nat
  | 0, _, _ => []
  | f + 1, P, i => match (plG P i).2.2 with
    | none => [(plG P i).2.1.toNat]
    | some (a, b) => symsF f P a ++ symsF f P b
def inc (L : List Int) (s : Nat) : List Int := L.set s (IntKind.i64.wrap (gi L s + 1))
def addS (L : List Int) (l : List Nat) : List Int := l.foldl inc L
theorem addS_length (l : List Nat) : ∀ L : List Int, (addS L l).length = L.length := by
  induction l with
  | nil => intro L; rfl
  | cons x r ih => intro L; show (addS (inc L x) r).length = _; rw [ih]; simp [inc]
theorem addS_app (L : List Int) (l m : List Nat) : addS L (l ++ m) = addS (addS L l) m := List.foldl_append ..

set_option maxHeartbeats 4000000 in
theorem count_c {S : List Nd} (hW : Wf S) : ∀ (f i : Nat), i < f → i < S.length → ∀ (w : World) (v : Value) (L : List Int), Lies w S S → w.ownsRow 0 3 1 v L.length (intsV L) → (∀ k, ndB S k → v.ownBlock ≠ some k) → (∀ n ∈ S, 0 ≤ n.sy ∧ n.sy < L.length) →
    Calls Try.prog 36 [ndP S i, v].toArray w (Ret fun x w' => x = .tuple #[] ∧ w'.ownsRow 0 3 1 v L.length (intsV (addS L (symsF f (S.map plN) i))) ∧ Mod (fun k => v.ownBlock = some k) w w')
  | 0, i, h, _ => by omega
  | f + 1, i, hf, hi => by
    intro w v L hL ho hd hsy
    refine F_sound c36 (by simp [fc36]) ?_
    have ei : S[i]? = some (ndG S i) := by rw [ndG, List.getElem?_eq_getElem hi]; rfl
    have hm : ndG S i ∈ S := List.mem_of_getElem? ei
    obtain ⟨c0, c1, c2⟩ := hL.cells hm
    obtain ⟨s0, s1⟩ := hsy _ hm
    have hpr := (hL _ hm).2
    have hwf := hW i _ ei
    have hpl := plG_nd S i
    have hrd := Rd.of_owns ho
    obtain ⟨hS, hSL⟩ := hrd.sl
    unfold symsF
    rw [hpl]
    simp only [show ∀ n : Nd, (plN n).2.2 = n.pr.map (fun p => p.2) from fun _ => rfl, show ∀ n : Nd, (plN n).2.1 = n.sy from fun _ => rfl]
    simp [fc36, s36, ndP, c2]
    rcases hp : (ndG S i).pr with _ | ⟨p, a, b⟩
    · have hV : ndV (ndG S i) = .slice none 0 0 := by unfold ndV; rw [hp]
      obtain ⟨s, es⟩ : ∃ s : Nat, (ndG S i).sy = s := ⟨(ndG S i).sy.toNat, by omega⟩
      rw [es] at c1
      have hs : s < L.length := by omega
      have hg := hrd.gi s hs
      have pv := hrd.some (by omega)
      have H := Hp.openG (i := .own 3 1 v L.length (intsV L)) ⟨ho, rfl⟩
      simp [hV]
      refine ite_r (t := true) (by simp) (fun _ => ?_) (fun h => by cases h)
      simp [c1, hS, hSL, pv, hg, hs]
      refine set_h (i := s) (u := .int .i64 (IntKind.i64.wrap (gi L s + 1))) 0 H rfl hs (by simp) (by simp) rfl ?_
      intro w2 H2
      refine ⟨.inl rfl, ?_⟩
      simp
      have e1 : (intsV L).set s (.int .i64 (IntKind.i64.wrap (gi L s + 1))) = intsV (inc L s) := by simp [inc, intsV, List.map_set]
      rw [e1] at H2
      obtain ⟨q1, q2, _⟩ := Hp.shutG (i := .own 3 1 v L.length (intsV (inc L s))) (F := fun k => v.ownBlock = some k) (R := []) (fun F' h => h.2) H2
      exact ⟨by rw [es]; exact q1.1, q2⟩
    · have hV : ndV (ndG S i) = p := by unfold ndV; rw [hp]
      obtain ⟨ha, hb⟩ := hwf p a b hp
      have hpo := hpr p a b hp
      have hprd := Rd.of_owns hpo
      obtain ⟨pS, pL⟩ := hprd.sl
      have pp := (hprd.ptr (by simp)).1
      simp [hV, pS, pL]
      refine ite_r (t := false) (by simp) (fun h => by cases h) (fun _ => ?_)
      simp [c2, hV, pS, pL]
      generalize hA : symsF f (S.map plN) a = A
      generalize hB : symsF f (S.map plN) b = B
      have IH := count_c hW f
      refine for_r 2 (fun k env' w' => env' 1 = v ∧ env' 24 = p ∧ env' 25 = .int .i64 2 ∧ env' 26 = .int .i64 k ∧ w'.ownsRow 0 3 1 v L.length (intsV (addS L (if k = 0 then [] else if k = 1 then A else A ++ B))) ∧ Mod (fun k => v.ownBlock = some k) w w') ?_ ?_ ?_
      · simp [addS, ho, Mod.refl]
      · rintro k env w1 hk ⟨e1, e24, e25, e26, o1, M1⟩
        have L1 := hL.st M1 (fun k hk h => hd k hk h)
        have w1' : IntKind.i64.wrap ((k : Int) + 1) = ((k + 1 : Nat) : Int) := by rw [wI (by omega) (by omega)]; omega
        have po : w1.ownsRow 0 61 1 p 2 [ndP S a, ndP S b] := M1.owns hpo (fun x hx h => hd x ⟨_, hm, .inr ⟨p, a, b, hp, hx⟩⟩ h)
        have pr1 := Rd.of_owns po
        have hl : (addS L (if k = 0 then [] else if k = 1 then A else A ++ B)).length = L.length := addS_length _ _
        simp [e25, e26, wp_blk]
        refine ite_r (t := true) (by simp; omega) (fun _ => ?_) (fun h => by cases h)
        simp [wp_blk, e24, e26, pS, pL, pp, hk]
        obtain rfl | rfl : k = 0 ∨ k = 1 := by omega
        · have cell := pr1.cell 0 _ rfl
          simp at cell
          simp [cell]
          refine call_h (IH a (by omega) (by omega) w1 v L L1 (by simpa [addS] using o1) hd hsy) (by simp [e1]) ?_
          rintro x w2 ⟨rfl, o2, M2⟩
          simp [e1, e24, e25, e26, w1']
          exact ⟨by decide, by rw [← hA]; exact o2, M1.tr M2⟩
        · have cell := pr1.cell 1 _ rfl
          simp [cell]
          simp at o1
          have IHb := IH b (by omega) (by omega) w1 v (addS L A) L1 (by rw [addS_length]; exact o1) hd (by rw [addS_length]; exact hsy)
          refine call_h IHb (by simp [e1]) ?_
          rintro x w2 ⟨rfl, o2, M2⟩
          simp [e1, e24, e25, e26, w1']
          rw [addS_length, hB, ← addS_app] at o2
          exact ⟨by decide, o2, M1.tr M2⟩
      · rintro env w1 ⟨e1, e24, e25, e26, o1, M1⟩
        simp [e25, e26]
        refine ite_r (t := false) (by simp) (fun h => by cases h) (fun _ => ?_)
        simp
        simp at o1
        exact ⟨o1, M1⟩

end Go.Proofs.Ytgjnfajdejkkjaa.VG
