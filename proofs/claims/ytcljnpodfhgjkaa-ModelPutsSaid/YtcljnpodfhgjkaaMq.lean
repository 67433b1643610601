/-
  Model: the law of what is put and got.
-/
import Derived.Test.YtcljnpodfhgjkaaMp
namespace Go.Proofs.Ytcljnpodfhgjkaa.VG
open Go
set_option linter.unusedSimpArgs false
set_option linter.unusedVariables false
set_option maxRecDepth 20000

theorem getM_len (l : List Nat) (wd h d : Int) : (getM l wd h d).1.1.length ≤ 4096 := by
  unfold getM
  split
  · rename_i hs
    obtain ⟨hd, hw, hh⟩ := sizesB_iff.1 hs
    split
    · rename_i hc
      obtain ⟨_, h2, _⟩ := dRun_ok l wd.toNat hd (wd.toNat * h.toNat) hc
      have := Nat.mul_le_mul (show wd.toNat ≤ 64 by omega) (show h.toNat ≤ 64 by omega)
      show (dRun l wd.toNat d (wd.toNat * h.toNat)).out.length ≤ 4096
      omega
    · simp
  · simp
/-- An own row read, with its bound. -/
theorem Hp.rdl {W w : World} {l : List It} (h : Hp W w l) (j : Nat) {e : TypeId} {size n : Nat} {v : Value} {xs : List Value} (hj : l[j]? = some (.own e size v n xs)) : Rd (fun k => k < w.heap.size) w v n xs := by
  obtain ⟨F, hP, _⟩ := h.upd j hj
  have hlt := (It.own e size v n xs).lt hP
  obtain ⟨hh, rfl⟩ := hP
  exact (Rd.of_owns hh).mono fun k hk => hlt k hk.1

set_option maxHeartbeats 4000000 in
theorem mgets_c {G : Nat → Prop} {w : World} {v : Value} {l : List Nat} (wd h d : Int) (hr : Rd G w v l.length (bytesV l)) (hf : ∀ x ∈ l, x < 256) (hl : l.length ≤ 17592186044416) (hG : ∀ k, G k → k < w.heap.size) :
    Calls Try.prog 31 [v, .int .i64 wd, .int .i64 h, .int .i64 d].toArray w (Ret fun r w' => r = .bool true ∧ Mod none' w w') := by
  refine F_sound c31 (by simp [fc31]) ?_
  simp [fc31, s31]
  have H := Hp.nil w
  refine call_h (new_c hr hf hl) (by simp) ?_
  rintro r w1 ⟨rb, GR, rfl, hR, M1, hGR⟩
  replace H := H.newRr hR M1 hGR
  refine call_h (ynew_c (hr.at H.mod) (fun k hk => Nat.lt_of_lt_of_le (hG k hk) H.mod.size) hf hl) (by simp) ?_
  rintro r w2 ⟨yb, rfl, hyb, hY, M2⟩
  have hyb0 : w.heap.size ≤ yb := Nat.le_trans H.mod.size hyb
  replace H : Hp w w2 [.rr rb l 0 0, .blk yb (rdC v 0 0)] := by
    obtain ⟨el, hh⟩ := hY.is
    exact H.add (i := .blk yb (rdC v 0 0)) (F := fun k => k = yb) M2 ⟨⟨el, hh⟩, rfl⟩ (fun k hk => by omega)
  simp
  obtain ⟨F, hRr, hFl, upR⟩ := H.upR 0 rfl
  refine call_h (mget_c hRr wd h d) (by simp) ?_
  rintro r w3 ⟨u, rfl, q1, q2, q3⟩
  replace H := upR (.rr rb l (getM l wd h d).2.1 (getM l wd h d).2.2) w3 F _ q2 q1 (fun k hk => hk) q3
  replace H : Hp w w3 [.rr rb l (getM l wd h d).2.1 (getM l wd h d).2.2, .blk yb (rdC v 0 0), .own 3 1 u (getM l wd h d).1.1.length (intsV (getM l wd h d).1.1)] := H
  simp
  obtain ⟨F, hB, hFl, upR⟩ := H.upR 1 rfl
  obtain ⟨⟨el, hh⟩, rfl⟩ := hB
  have hY3 : Yr w3 G yb v l 0 0 := ⟨heap_lt hh, fun hk => by have := hG yb hk; omega, hf, Nat.zero_le _, hl, hr.at H.mod, el, hh⟩
  refine call_h (mget2_c hY3 (fun k hk => Nat.lt_of_lt_of_le (hG k hk) H.mod.size) wd h d) (by simp) ?_
  rintro r w4 ⟨u2, rfl, q1, q2, q3⟩
  obtain ⟨el2, hh2⟩ := q1.is
  replace H := upR (.blk yb (rdC v (getM l wd h d).2.1 (getM l wd h d).2.2)) w4 (fun k => k = yb) _ q2 ⟨⟨el2, hh2⟩, rfl⟩ (fun k hk => hk) q3
  replace H : Hp w w4 [.rr rb l (getM l wd h d).2.1 (getM l wd h d).2.2, .blk yb (rdC v (getM l wd h d).2.1 (getM l wd h d).2.2), .own 3 1 u (getM l wd h d).1.1.length (intsV (getM l wd h d).1.1), .own 3 1 u2 (getM l wd h d).1.1.length (intsV (getM l wd h d).1.1)] := H
  have hml := getM_len l wd h d
  generalize getM l wd h d = s at *
  simp
  refine callm (ints_c (H.rd 2 rfl) (H.rd 3 rfl) (by unfold maxLen; omega)) (by simp (disch := omega) [wI, wU, tmod_nn, tdiv_nn, env0_0, env0_1, env0_2, env0_3, env0_4, env0_5, -env0_apply]) ?_
  intro w' M'
  replace H := H.same M'
  simp
  by_cases he : s.1.2 = 0
  · simp [he]
    refine ifg_r (t := false) (by simp [he]) (fun _ => ?_) (fun h => (h rfl).elim)
    obtain ⟨F, hR4, _⟩ := H.rr 0 rfl
    refine callp (at_c hR4) (by simp) ?_
    simp
    refine ifg_r (t := false) (by simp [he]) (fun _ => ?_) (fun h => (h rfl).elim)
    obtain ⟨F, ⟨⟨el3, hh3⟩, _⟩, _⟩ := H.upR 1 rfl
    have hY5 : Yr w' G yb v l s.2.1 s.2.2 := ⟨heap_lt hh3, fun hk => by have := hG yb hk; omega, hf, q1.le, hl, hr.at H.mod, el3, hh3⟩
    refine callp (yat26_c hY5) (by simp) ?_
    simp
    exact H.mod
  · refine ifg_r (t := true) (by simp [he]) (fun h => by cases h) (fun _ => ?_)
    simp
    refine ifg_r (t := true) (by simp [he]) (fun h => by cases h) (fun _ => ?_)
    simp [he]
    exact H.mod

end Go.Proofs.Ytcljnpodfhgjkaa.VG
