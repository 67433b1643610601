/-
  Where words may be longer, they cost no more.
-/
import Derived.Test.YtgjnfajdejkkjaaXg
namespace Go.Proofs.Ytgjnfajdejkkjaa.VG
open Go
set_option linter.unusedSimpArgs false
set_option linter.unusedVariables false
set_option maxRecDepth 20000

theorem lenE_in {freq : List Int} {m : Int} (h1 : 1 ≤ m) (h2 : m ≤ 24) : lenE freq m = if freq.length < 1 ∨ 1024 < freq.length ∨ freq.all okF = false then 1 else if (usd freq).length = 0 then 7 else if 2 ^ m.toNat < (usd freq).length then 6 else 0 := by
  unfold lenE
  by_cases hb : freq.length < 1 ∨ 1024 < freq.length ∨ freq.all okF = false
  · rw [if_pos hb, if_pos (by rcases hb with h | h | h <;> simp [h])]
  · rw [if_neg hb, if_neg]
    rintro (h | h | h | h | h)
    · exact hb (.inl h)
    · exact hb (.inr (.inl h))
    · omega
    · omega
    · exact hb (.inr (.inr h))
theorem lenE_up {freq : List Int} {m n : Int} (h1 : 1 ≤ m) (hmn : m ≤ n) (hn : n ≤ 24) : (lenE freq m = 0 → lenE freq n = 0) ∧ (lenE freq m = 6 → lenE freq n = 0 ∨ lenE freq n = 6) := by
  have hp : 2 ^ m.toNat ≤ 2 ^ n.toNat := Nat.pow_le_pow_right (by omega) (by omega)
  rw [lenE_in h1 (by omega), lenE_in (m := n) (by omega) hn]
  split
  · exact ⟨fun h => (by cases h), fun h => (by cases h)⟩
  · split
    · exact ⟨fun h => (by cases h), fun h => (by cases h)⟩
    · refine ⟨fun h => ?_, fun _ => ?_⟩
      · split at h
        · cases h
        · rw [if_neg (by omega)]
      · split
        · exact .inr rfl
        · exact .inl rfl
theorem lq_room {freq : List Int} {m n : Int} (h : lenE freq m = 0) (hmn : m ≤ n) (hn : n ≤ 24) : twN freq (lenQ freq n) freq.length ≤ twN freq (lenQ freq m) freq.length := by
  obtain ⟨q, rfl, q1, q2, _, n2, hfr, _⟩ := lq_ok h
  have h' := (lenE_up (freq := freq) (by omega) hmn hn).1 h
  have l1 := lq_len h
  have l2 := lq_len h'
  rw [cost_eq hfr n2 (fun s hs => full_ok (lq_full h') (by omega)), cost_eq hfr n2 (fun s hs => full_ok (lq_full h) (by omega))]
  exact lq_least h' l1 (fun s hs => ⟨by have := (lq_of h hs).2.1; omega, (lq_of h hs).2.2⟩) (lq_full h)

set_option maxHeartbeats 4000000 in
theorem proom_law {F : Nat → Prop} {w : World} {v : Value} {freq : List Int} (most : Int) (hr : Rd F w v freq.length (intsV freq)) (hm : freq.length ≤ maxLen) :
    Calls Try.prog 8 [v, .int .i64 most].toArray w (Ret fun r w' => r = .bool true ∧ Mod none' w w') := by
  refine F_sound c8 (by simp [fc8]) ?_
  obtain ⟨hS, hL⟩ := hr.sl
  simp [fc8, s8]
  refine callm known_c (by simp) ?_
  intro w1 M1
  have H := Hp.ofMod M1
  simp
  refine ite_r (t := false) (by simp) (fun h => by cases h) (fun _ => ?_)
  simp [hS, hL]
  by_cases hbig : 24 < freq.length ∨ most < 1 ∨ 24 ≤ most
  · refine ite_r (t := true) (by simp; omega) (fun _ => ?_) (fun h => by cases h)
    simp
    exact M1
  refine ite_r (t := false) (by simp; omega) (fun h => by cases h) (fun _ => ?_)
  simp
  have wm : IntKind.i64.wrap (most + 1) = most + 1 := wI (by omega) (by omega)
  refine call_h (lengths_c most (hr.at H.mod) (by omega) hm) (by simp) ?_
  rintro r w2 ⟨va, rfl, HL⟩
  replace H : Hp w w2 [.own 3 1 va (lenQ freq most).length (intsV (lenQ freq most))] := H.join HL
  clear HL
  simp [wm]
  refine call_h (lengths_c (most + 1) (hr.at H.mod) (by omega) hm) (by simp [wm]) ?_
  rintro r w3 ⟨vb, rfl, HL⟩
  replace H : Hp w w3 [.own 3 1 va (lenQ freq most).length (intsV (lenQ freq most)), .own 3 1 vb (lenQ freq (most + 1)).length (intsV (lenQ freq (most + 1)))] := H.join HL
  clear HL
  simp
  refine call_h (lengths_c 24 (hr.at H.mod) (by omega) hm) (by simp) ?_
  rintro r w4 ⟨vc, rfl, HL⟩
  replace H : Hp w w4 [.own 3 1 va (lenQ freq most).length (intsV (lenQ freq most)), .own 3 1 vb (lenQ freq (most + 1)).length (intsV (lenQ freq (most + 1))), .own 3 1 vc (lenQ freq 24).length (intsV (lenQ freq 24))] := H.join HL
  clear HL
  simp
  obtain ⟨u1, u2⟩ := lenE_up (freq := freq) (m := most) (n := most + 1) (by omega) (by omega) (by omega)
  obtain ⟨u3, _⟩ := lenE_up (freq := freq) (m := most) (n := 24) (by omega) (by omega) (by omega)
  by_cases he : lenE freq most = 0
  · have e2 := u1 he
    have e3 := u3 he
    have c1 := lq_room he (show most ≤ most + 1 by omega) (by omega)
    have c2 := lq_room e2 (show most + 1 ≤ 24 by omega) (by omega)
    have l1 := lq_len he
    have l2 := lq_len e2
    have l3 := lq_len e3
    rw [he, e2, e3]
    generalize lenQ freq most = a at *
    generalize lenQ freq (most + 1) = b at *
    generalize lenQ freq 24 = c at *
    refine ite_r (t := false) (by simp) (fun h => by cases h) (fun _ => ?_)
    simp
    refine ifg_r (t := true) (by simp) (fun _ => ?_) (fun h => (h rfl).elim)
    refine callm (total_c (hr.at H.mod) (H.rd 1 rfl) (by omega) (by omega)) (by simp) ?_
    intro w5 M5
    replace H := H.same M5
    simp
    refine ifg_r (t := true) (by simp) (fun _ => ?_) (fun h => (h rfl).elim)
    refine callm (total_c (hr.at H.mod) (H.rd 0 rfl) (by omega) (by omega)) (by simp) ?_
    intro w6 M6
    replace H := H.same M6
    rw [show min freq.length a.length = freq.length by omega, show min freq.length b.length = freq.length by omega]
    simp [c1]
    refine ifg_r (t := true) (by simp [c1]) (fun _ => ?_) (fun h => (h rfl).elim)
    refine callm (total_c (hr.at H.mod) (H.rd 2 rfl) (by omega) (by omega)) (by simp) ?_
    intro w7 M7
    replace H := H.same M7
    simp
    refine ifg_r (t := true) (by simp [c1]) (fun _ => ?_) (fun h => (h rfl).elim)
    refine callm (total_c (hr.at H.mod) (H.rd 1 rfl) (by omega) (by omega)) (by simp) ?_
    intro w8 M8
    replace H := H.same M8
    rw [show min freq.length c.length = freq.length by omega, show min freq.length b.length = freq.length by omega]
    simp [c1, c2]
    exact H.mod
  · refine ite_r (t := true) (by simp [he]) (fun _ => ?_) (fun h => by cases h)
    simp
    refine ⟨?_, H.mod⟩
    by_cases h6 : lenE freq most = 6
    · rcases u2 h6 with h | h <;> simp [h]
    · simp [h6]

end Go.Proofs.Ytgjnfajdejkkjaa.VG
