/-
  The law of what is got.
-/
import Derived.Test.YtgjnfajdejkkjaaQy
namespace Go.Proofs.Ytgjnfajdejkkjaa.VG
open Go
set_option linter.unusedSimpArgs false
set_option linter.unusedVariables false
set_option maxRecDepth 20000

theorem decsN_len {l : List Int} {bs : List Nat} : ∀ (k p : Nat) (out : List Int), (decsN l bs k p out).1.1.length ≤ out.length + k
  | 0, p, out => by simp [decsN]
  | k + 1, p, out => by
    rw [decsN]
    split
    · simp
    · have := decsN_len (l := l) (bs := bs) k (decW l bs (rk l) 0 0 p).2.1 (out ++ [(decW l bs (rk l) 0 0 p).1.1])
      rw [List.length_append, List.length_singleton] at this
      omega
theorem getP_len (l : List Int) (bs : List Nat) (p : Nat) (e n : Int) : (getP l bs p e n).1.1.length ≤ 4194304 := by
  unfold getP
  split
  · simp
  split
  · simp
  · rename_i h _
    have := decsN_len (l := l) (bs := bs) n.toNat p []
    simp only [List.length_nil] at this
    omega

set_option maxHeartbeats 4000000 in
theorem pgets7_law {w : World} {v u : Value} {bs : List Nat} {l : List Int} (n skip : Int) (h : Rd (fun b => b < w.heap.size) w v bs.length (bytesV bs)) (hf : ∀ x ∈ bs, x < 256) (hr : Rd (fun b => b < w.heap.size) w u l.length (intsV l)) (hm : l.length ≤ maxLen) :
    Calls Try.prog 9 [v, u, .int .i64 n, .int .i64 skip].toArray w (Ret fun r w' => r = .bool true ∧ Mod none' w w') := by
  refine F_sound c9 (by simp [fc9]) ?_
  obtain ⟨hS, hL⟩ := h.sl
  obtain ⟨uS, uL⟩ := hr.sl
  simp [fc9, s9]
  refine callm known_c (by simp) ?_
  intro w1 M1
  have H := Hp.ofMod M1
  simp
  refine ite_r (t := false) (by simp) (fun h => by cases h) (fun _ => ?_)
  simp [hS, hL, uS, uL]
  by_cases hbig : 100 < bs.length ∨ 300 < l.length
  · refine ite_r (t := true) (by simp; omega) (fun _ => ?_) (fun h => by cases h)
    simp
    exact M1
  refine ite_r (t := false) (by simp; omega) (fun h => by cases h) (fun _ => ?_)
  simp
  refine call_h (new_c (h.at H.mod) hf (by omega)) (by simp) ?_
  rintro r w2 ⟨b, G, rfl, hR, M2, hG⟩
  replace H := H.newRr hR M2 hG
  refine call_h (ynew_c (h.at H.mod) (fun k hk => by have := H.mod.size; omega) hf (by omega)) (by simp) ?_
  rintro r w3 ⟨c, rfl, hc, hY, M3⟩
  replace H := H.add (i := .blk c #[v, .int .i64 ((0 : Nat) : Int), .int .i64 0]) (F := fun k => k = c) M3 ⟨hY.is, rfl⟩ (fun k hk => by omega)
  have hle := hY.le
  simp
  refine ite_r (t := false) (by simp) (fun h => by cases h) (fun _ => ?_)
  simp
  obtain ⟨FW, hW, hFW, upW⟩ := H.rr 0 rfl
  refine call_h (get_c hW skip) (by simp (disch := omega) [wI, wU, tmod_nn, tdiv_nn, env0_0, env0_1, env0_2, env0_3, env0_4, env0_5, -env0_apply]) ?_
  rintro r wW ⟨rfl, AW⟩
  replace H := upW _ _ _ AW
  obtain ⟨hY, upY⟩ := H.yr 1 rfl h hf hle (by omega)
  refine call_h (yget_c hY skip) (by simp) ?_
  rintro r w5 ⟨rfl, AY⟩
  replace H := upY _ _ _ AY
  have hle := AY.1.le
  generalize rGet bs 0 0 skip = g at *
  obtain ⟨g1, p, e⟩ := g
  simp only at *
  replace H : Hp w w5 (.rr b bs p e :: [.blk c #[v, .int .i64 p, .int .i64 e]]) := H
  refine call_h (get_h (n := n) H (by omega) hr) (by simp) ?_
  rintro r w6 ⟨u1, rfl, H⟩
  have hlen := getP_len l bs p e n
  replace H := H.perm (l' := .blk c #[v, .int .i64 p, .int .i64 e] :: [.rr b bs (getP l bs p e n).2.1 (getP l bs p e n).2.2, .own 3 1 u1 (getP l bs p e n).1.1.length (intsV (getP l bs p e n).1.1)]) (List.perm_append_comm (l₁ := [_, _]) (l₂ := [_]))
  simp
  refine call_h (dget_h (n := n) H h hf hle (by omega) (by omega) hr) (by simp) ?_
  rintro r w7 ⟨u2, rfl, H⟩
  generalize getP l bs p e n = s at *
  obtain ⟨⟨out, er⟩, q, e'⟩ := s
  simp only at *
  simp
  replace H := H.drew
  refine callm (sameInts_c (l := out) (m := out) (H.rd 3 rfl) (H.rd 1 rfl) (by unfold maxLen; omega)) (by simp (disch := omega) [wI, wU, tmod_nn, tdiv_nn, env0_0, env0_1, env0_2, env0_3, env0_4, env0_5, -env0_apply]) ?_
  intro w' M'
  replace H := H.same M'
  have hc := H.blk 0 rfl 1
  simp at hc
  simp [hc]
  by_cases her : er = 0
  · refine ifg_r (t := false) (by simp [her]) (fun _ => ?_) (fun h => (h rfl).elim)
    obtain ⟨F, hR, _⟩ := H.rr 2 rfl
    refine call_r _ (at_c hR) (by simp) ?_
    rintro r _ ⟨rfl, rfl⟩
    refine ⟨by simp [promOk, SameCells], ?_⟩
    simp [her, hc]
    exact H.mod
  · refine ifg_r (t := true) (by simp [her]) (fun h => by cases h) (fun _ => ?_)
    simp [her]
    exact H.mod

end Go.Proofs.Ytgjnfajdejkkjaa.VG
