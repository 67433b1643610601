/-
  Symbols put as words.
-/
import Derived.Test.YtgjnfajdejkkjaaQi
import Derived.Test.YtgjnfajdejkkjaaHo
namespace Go.Proofs.Ytgjnfajdejkkjaa.VG
open Go
set_option linter.unusedSimpArgs false
set_option linter.unusedVariables false
set_option maxRecDepth 20000

/-- The bits of a symbol. -/
def syB (lens : List Int) (x : Int) : List Bool := toB (gi (cdW lens) x.toNat).toNat (gi lens x.toNat).toNat
def symsB (lens l : List Int) : List Bool := l.flatMap (syB lens)
theorem symsB_len (lens : List Int) : ∀ l : List Int, (∀ x ∈ l, gi lens x.toNat ≤ 24) → (symsB lens l).length ≤ 24 * l.length
  | [], _ => by simp [symsB]
  | x :: r, h => by
    have ih := symsB_len lens r (fun y hy => h y (by simp [hy]))
    have hx := h x (by simp)
    have e : (symsB lens (x :: r)).length = (syB lens x).length + (symsB lens r).length := by simp [symsB]
    rw [e, List.length_cons]
    unfold syB
    rw [toB_length]
    omega

set_option maxHeartbeats 4000000 in
theorem put_h {W w : World} {rest : List It} {b : Nat} {bs : List Bool} {G : Nat → Prop} {v u : Value} {lens l : List Int} (H : Hp W w (.wr b bs :: rest))
    (hr : ∀ bs' w', Hp W w' (.wr b bs' :: rest) → Rd G w' v lens.length (intsV lens)) (hu : ∀ bs' w', Hp W w' (.wr b bs' :: rest) → Rd G w' u l.length (intsV l))
    (hll : l.length ≤ 1000000) (hbl : bs.length + 24 * l.length < 1099511627776) (hf : fullB lens = true) (hs : ∀ x ∈ l, 0 ≤ x ∧ x < lens.length ∧ gi lens x.toNat ≠ 0)
    (hwb : ∀ x ∈ l, 0 ≤ gi (cdW lens) x.toNat ∧ (gi (cdW lens) x.toNat).toNat < 2 ^ (gi lens x.toNat).toNat) :
    Calls Try.prog 30 [.pointer (some ⟨b, 0, none⟩), v, u].toArray w (Ret fun r w' => r = .int .i64 0 ∧ Hp W w' (.wr b (bs ++ symsB lens l) :: rest)) := by
  refine F_sound c30 (by simp [fc30]) ?_
  have hlen : lens.length ≤ 1024 ∧ lens.all okLen = true := by
    unfold fullB at hf
    simp only [Bool.and_eq_true, decide_eq_true_eq] at hf
    exact ⟨hf.1.1.2, hf.1.2⟩
  have hok : ∀ i, i < lens.length → 0 ≤ gi lens i ∧ gi lens i ≤ 24 := fun i hi => okLen_iff.1 (List.all_eq_true.1 hlen.2 _ (gi_mem lens i hi))
  simp [fc30, s30]
  refine call_h (codes_c (hr _ _ H) (by omega)) (by simp) ?_
  rintro r w1 ⟨vw, rfl, HW⟩
  unfold codesP OwnW at HW
  rw [if_pos hf, show (cdW lens).length = lens.length from cdN_len lens _] at HW
  have H1 : Hp W w1 (.own 33 1 vw lens.length (wdsV (cdW lens)) :: .wr b bs :: rest) := (H.join HW).perm (List.perm_append_comm)
  clear H HW
  simp [erP, hf]
  refine ite_r (t := false) (by simp) (fun h => by cases h) (fun _ => ?_)
  obtain ⟨uS, uL⟩ := (hu _ _ (H1.drop 0)).sl
  obtain ⟨vS, vL⟩ := (hr _ _ (H1.drop 0)).sl
  simp [uS, uL]
  refine for_r l.length (fun i env' w' => w' = w1 ∧ env' 0 = .pointer (some ⟨b, 0, none⟩) ∧ env' 1 = v ∧ env' 2 = u ∧ env' 7 = vw ∧ env' 21 = u ∧ env' 22 = .int .i64 l.length ∧ env' 23 = .int .i64 i) ?_ ?_ ?_
  · simp
  · rintro i env w2 hi ⟨rfl, e0, e1, e2, e7, e21, e22, e23⟩
    have wi : IntKind.i64.wrap ((i : Int) + 1) = ((i + 1 : Nat) : Int) := by rw [wI (by omega) (by omega)]; omega
    have cu := (hu _ _ (H1.drop 0)).gi i hi
    have pu := (hu _ _ (H1.drop 0)).some (by omega)
    obtain ⟨s0, s1, s2⟩ := hs _ (gi_mem l i hi)
    generalize gi l i = x at *
    obtain ⟨s, rfl⟩ : ∃ s : Nat, x = s := ⟨x.toNat, by omega⟩
    rw [Int.toNat_natCast] at s2
    have hs' : s < lens.length := by omega
    have cl := (hr _ _ (H1.drop 0)).gi s hs'
    have pl := (hr _ _ (H1.drop 0)).some (by omega)
    simp [e22, e23]
    refine ite_r (t := true) (by simp [hi]) (fun _ => ?_) (fun h => by cases h)
    simp [wp_blk, e1, e21, e23, uS, uL, vS, vL, pu, pl, cu, cl, hi, hs']
    refine ite_r (t := false) (by simp [s2]; omega) (fun h => by cases h) (fun _ => ?_)
    simp [e23, wi]
    exact ⟨e0, e1, e2, e7, e21, e22⟩
  · rintro env w2 ⟨rfl, e0, e1, e2, e7, e21, e22, e23⟩
    simp [e22, e23]
    refine ite_r (t := false) (by simp) (fun h => by cases h) (fun _ => ?_)
    simp [e2, uS, uL]
    refine for_r l.length (fun i env' w' => env' 0 = .pointer (some ⟨b, 0, none⟩) ∧ env' 1 = v ∧ env' 7 = vw ∧ env' 43 = u ∧ env' 44 = .int .i64 l.length ∧ env' 45 = .int .i64 i ∧
      Hp W w' (.own 33 1 vw lens.length (wdsV (cdW lens)) :: .wr b (bs ++ symsB lens (l.take i)) :: rest)) ?_ ?_ ?_
    · exact ⟨by simp [e0], by simp [e1], by simp [e7], by simp, by simp, by simp, by simpa [symsB] using H1⟩
    · rintro i env w3 hi ⟨e0, e1, e7, e43, e44, e45, H⟩
      have wi : IntKind.i64.wrap ((i : Int) + 1) = ((i + 1 : Nat) : Int) := by rw [wI (by omega) (by omega)]; omega
      have HD := H.drew
      have cu0 := (hu _ _ (H.drop 0)).gi i hi
      have pu := (hu _ _ (H.drop 0)).some (by omega)
      have htk := gi_take_snoc l i hi
      obtain ⟨s0, s1, s2⟩ := hs _ (gi_mem l i hi)
      obtain ⟨b0, b1⟩ := hwb _ (gi_mem l i hi)
      have hbt := symsB_len lens (l.take i) (fun y hy => by
        obtain ⟨y0, y1, _⟩ := hs y (List.mem_of_mem_take hy)
        exact (hok _ (by omega)).2)
      rw [List.length_take] at hbt
      generalize gi l i = x at *
      obtain ⟨s, rfl⟩ : ∃ s : Nat, x = s := ⟨x.toNat, by omega⟩
      rw [Int.toNat_natCast] at s2 b0 b1
      have hs' : s < lens.length := by omega
      obtain ⟨o0, o1⟩ := hok s hs'
      have cl := (hr _ _ (HD.drop 0)).gi s hs'
      have pl := (hr _ _ (H.drop 0)).some (by omega)
      have cw := rdW (HD.rd 0 rfl) s (by rw [show (cdW lens).length = lens.length from cdN_len lens _]; exact hs')
      have pw := rdW_ptr (H.rd 0 rfl) (by rw [show (cdW lens).length = lens.length from cdN_len lens _]; omega)
      obtain ⟨wS, wL⟩ := (H.rd 0 rfl).sl
      obtain ⟨n, hn⟩ : ∃ n : Nat, gi lens s = n := ⟨(gi lens s).toNat, by omega⟩
      obtain ⟨d, hd⟩ : ∃ d : Nat, gi (cdW lens) s = d := ⟨(gi (cdW lens) s).toNat, by omega⟩
      have hsy : symsB lens (l.take (i + 1)) = symsB lens (l.take i) ++ toB d n := by
        rw [htk]
        unfold symsB
        rw [List.flatMap_append]
        simp [syB, hn, hd]
      rw [hn] at cl
      rw [hd] at cw
      rw [hn, hd, Int.toNat_natCast, Int.toNat_natCast] at b1
      simp at cl cw
      simp [e44, e45]
      refine ite_r (t := true) (by simp [hi]) (fun _ => ?_) (fun h => by cases h)
      simp [wp_blk, wp_draw, e1, e7, e43, e45, uS, uL, vS, vL, wS, wL, pu, pl, pw, cu0, cl, cw, hi, hs']
      replace H := HD
      obtain ⟨FW, hW, hFW, upW, rdW⟩ := H.wr 1 rfl
      refine call_h (put_yes hW d n (by omega) b1 (by rw [List.length_append]; omega)) (by simp (disch := omega) [wI, wU, tmod_nn, tdiv_nn, env0_0, env0_1, env0_2, env0_3, env0_4, env0_5, -env0_apply, e0]) ?_
      rintro r wW ⟨rfl, AW⟩
      replace H := upW _ _ AW
      simp [e45, wi]
      refine ⟨e0, e1, e7, e43, e44, ?_⟩
      rw [hsy, ← List.append_assoc]
      exact H
    · rintro env w3 ⟨e0, e1, e7, e43, e44, e45, H⟩
      simp [e44, e45]
      refine ite_r (t := false) (by simp) (fun h => by cases h) (fun _ => ?_)
      simp
      rw [List.take_length] at H
      exact H.drop 0

end Go.Proofs.Ytgjnfajdejkkjaa.VG
