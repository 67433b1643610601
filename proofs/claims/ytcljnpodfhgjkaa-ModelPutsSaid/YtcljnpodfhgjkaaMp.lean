/-
  Model: the law of puts.
-/
import Derived.Test.YtcljnpodfhgjkaaMo
namespace Go.Proofs.Ytcljnpodfhgjkaa.VG
open Go
set_option linter.unusedSimpArgs false
set_option linter.unusedVariables false
set_option maxRecDepth 20000

theorem putBits_le {l : List Int} (hl : l.length ≤ 1000000) (wd h d : Int) : (putBits l wd h d).length ≤ 65000000 := by
  unfold putBits
  split
  · rename_i hp
    obtain ⟨_, _, hd, _⟩ := planeB_iff.1 hp
    have := bitP_le l wd.toNat hd l.length
    omega
  · simp
set_option maxHeartbeats 4000000 in
theorem mputs_c {w : World} {v : Value} {l : List Int} (wd h d : Int) (hr : Rd (fun k => k < w.heap.size) w v l.length (intsV l)) (hl : l.length ≤ 1000000) :
    Calls Try.prog 29 [v, .int .i64 wd, .int .i64 h, .int .i64 d].toArray w (Ret fun r w' => r = .bool true ∧ Mod none' w w') := by
  refine F_sound c29 (by simp [fc29]) ?_
  simp [fc29, s29]
  refine wrbox_h (Hp.nil w) (by simp) ?_
  intro b w1 H M1
  refine ⟨.inl rfl, ?_⟩
  simp
  refine xrbox_h H (by simp) ?_
  intro c w2 H M2
  refine ⟨.inl rfl, ?_⟩
  simp
  refine sq_r (fun env' w' => env' 8 = .bool true ∧ Mod none' w w') ?_ ?_
  rotate_left
  · rintro env w' ⟨e8, M⟩
    simp [e8]
    exact M
  replace H := H.drew
  replace H : Hp w w2.drew [.wr b [], .xr c []] := H
  have hpl := putBits_le hl wd h d
  simp
  obtain ⟨FW, hW, hFW, upW, rdW⟩ := H.wr 0 rfl
  refine call_h (mput_c wd h d hW (hr.at H.mod) hFW hl (by simp)) (by simp) ?_
  rintro r w3 ⟨rfl, AW⟩
  replace H := upW _ _ AW
  obtain ⟨FX, hX, hFX, upX, rdX⟩ := H.xr 1 rfl
  refine call_h (mput2_c wd h d hX (hr.at H.mod) hFX hl (by simp)) (by simp) ?_
  rintro r w4 ⟨rfl, AX⟩
  replace H := upX _ _ AX
  replace H : Hp w w4 [.wr b (putBits l wd h d), .xr c (putBits l wd h d)] := by simpa using H
  generalize putBits l wd h d = bs at *
  simp
  refine ifg_r (t := true) (by simp) (fun _ => ?_) (fun h => (h rfl).elim)
  obtain ⟨FW, hW, _⟩ := H.wr 0 rfl
  refine callp (len_c hW) (by simp) ?_
  simp
  refine ifg_r (t := true) (by simp) (fun _ => ?_) (fun h => (h rfl).elim)
  obtain ⟨FX, hX, _⟩ := H.xr 1 rfl
  refine callp (xlen_c hX) (by simp) ?_
  simp
  refine ifg_r (t := true) (by simp) (fun _ => ?_) (fun h => (h rfl).elim)
  obtain ⟨FW, hW, _⟩ := H.wr 0 rfl
  refine call_h (bytes_c hW (by omega)) (by simp) ?_
  intro vb w5 A
  replace H := H.newBytes A
  simp
  refine wp_alt ?_ ?_
  · refine ifg_r (t := true) (by simp) (fun _ => ?_) (fun h => (h rfl).elim)
    refine str_r (e := 5) (by kernel_rfl) (by kernel_rfl) (by kernel_rfl) ((H.rd 2 rfl).oct (packB_fits _)) (by simp) ⟨by simp, ?_⟩
    simp
    refine ifg_r (t := true) (by simp) (fun _ => ?_) (fun h => (h rfl).elim)
    obtain ⟨FX, hX, _⟩ := H.xr 1 rfl
    refine call_h (xbytes_c hX (by omega)) (by simp) ?_
    intro vc w6 A
    replace H := H.newBytes A
    simp
    refine ifg_r (t := true) (by simp) (fun _ => ?_) (fun h => (h rfl).elim)
    refine str_r (e := 5) (by kernel_rfl) (by kernel_rfl) (by kernel_rfl) ((H.rd 3 rfl).oct (packB_fits _)) (by simp) ⟨by simp, ?_⟩
    simp
    exact H.mod
  · refine ifg_r (t := true) (by simp) (fun _ => ?_) (fun h => (h rfl).elim)
    obtain ⟨FX, hX, _⟩ := H.xr 1 rfl
    refine call_h (xbytes_c hX (by omega)) (by simp) ?_
    intro vc w6 A
    replace H := H.newBytes A
    simp
    refine wp_alt ?_ ?_
    · refine ifg_r (t := true) (by simp) (fun _ => ?_) (fun h => (h rfl).elim)
      refine str_r (e := 5) (by kernel_rfl) (by kernel_rfl) (by kernel_rfl) ((H.rd 2 rfl).oct (packB_fits _)) (by simp) ⟨by simp, ?_⟩
      simp
      refine ifg_r (t := true) (by simp) (fun _ => ?_) (fun h => (h rfl).elim)
      refine str_r (e := 5) (by kernel_rfl) (by kernel_rfl) (by kernel_rfl) ((H.rd 3 rfl).oct (packB_fits _)) (by simp) ⟨by simp, ?_⟩
      simp
      exact H.mod
    · refine ifg_r (t := true) (by simp) (fun _ => ?_) (fun h => (h rfl).elim)
      refine str_r (e := 5) (by kernel_rfl) (by kernel_rfl) (by kernel_rfl) ((H.rd 3 rfl).oct (packB_fits _)) (by simp) ⟨by simp, ?_⟩
      simp
      refine ifg_r (t := true) (by simp) (fun _ => ?_) (fun h => (h rfl).elim)
      refine str_r (e := 5) (by kernel_rfl) (by kernel_rfl) (by kernel_rfl) ((H.rd 2 rfl).oct (packB_fits _)) (by simp) ⟨by simp, ?_⟩
      simp
      exact H.mod

end Go.Proofs.Ytcljnpodfhgjkaa.VG
