/-
  Match: what the listed variable gives a walk.
-/
import Derived.Test.YtfanamibkgkaiaaDoorRows
import Derived.Test.YtfanamibkgkaiaaDoorKt
import Derived.Lib.LaidTab
import Derived.MakeChecks
import Derived.LaidMore
namespace Go.Proofs.YtfanamibkgkaiaaDoor.VG
open Go
set_option linter.unusedSimpArgs false
set_option linter.unusedVariables false
set_option maxRecDepth 20000

theorem cells_of_tab2 {H : Type} {enc : TypeId × Value → H} {P : Program} {w : World} {base : Nat} {sp : Nat → Bool} {held : Bool} {fuel : Nat} {t e u : TypeId} {n m : Nat} {k : IntKind} {cs : List Value} {zs : List (List Int)} {p : List MemPlace}
    (ht : P.underlying t = some (.array n e)) (he : P.underlying e = some (.array m u)) (hu : P.underlying u = some (.int k)) (hcu : P.cellsOf u = 1) (hce : P.cellsOf e = m) (hct : P.cellsOf t = n * m)
    (h : DataW.trod enc P w base sp held fuel t cs = some (.agg (zs.map (Lib.tabData k)), p)) (r j : Nat) (hr : r < n) (hj : j < m) : ∃ z : List Int, zs[r]? = some z ∧ cs[r * m + j]? = (z.map fun x => Value.int k x)[j]? := by
  cases fuel with
  | zero => simp [DataW.trod] at h
  | succ fuel =>
    simp only [DataW.trod, ht, hce, hct] at h
    split at h
    · rename_i hl
      obtain ⟨xs, hm, hx⟩ := Option.map_eq_some_iff.1 h
      have hxs : xs.map (·.1) = zs.map (Lib.tabData (H := H) k) := by
        have := congrArg Prod.fst hx
        simpa using this
      obtain ⟨b, hb, hf⟩ := Lib.mapM_at hm r r (by simp [hr])
      have h2 : (xs.map (·.1))[r]? = some b.1 := by simp [hb]
      rw [hxs] at h2
      simp only [List.getElem?_map, Option.map_eq_some_iff] at h2
      obtain ⟨z, hz, e2⟩ := h2
      have hf' : DataW.trod enc P w base sp held fuel e ((cs.drop (r * m)).take m) = some (Lib.tabData k z, b.2) := by rw [e2]; exact hf
      have hc := Lib.cells_of_tab he hu hcu hce hf'
      refine ⟨z, hz, ?_⟩
      rw [← hc, List.getElem?_take_of_lt hj, List.getElem?_drop]
    · cases h
def ptsL : List (List Int) := [[0, 1], [1, 0], [1, 1], [-1, 1], [0, 2], [2, 0], [1, 2], [-1, 2], [2, 1], [-2, 1], [2, 2], [-2, 2], [0, 3], [3, 0], [1, 3], [-1, 3], [3, 1], [-3, 1], [2, 3], [-2, 3], [3, 2], [-3, 2], [0, 4], [4, 0]]
def ptX (c : Nat) : Int := (ptsL.getD c []).getD 0 0
def ptY (c : Nat) : Int := (ptsL.getD c []).getD 1 0
/-- The points lie where the program has them. -/
def Pts (w : World) : Prop := ∀ c, c < 24 → w.cell? ⟨0, c * 2, none⟩ = some (.int .i64 (ptX c)) ∧ w.cell? ⟨0, c * 2 + 1, none⟩ = some (.int .i64 (ptY c))
theorem Pts.at {w w' : World} (h : Pts w) (m : Mod none' w w') : Pts w' := fun c hc => ⟨m.cell (h c hc).1 (fun h => h), m.cell (h c hc).2 (fun h => h)⟩
theorem Pts.drew {w : World} (h : Pts w) : Pts w.drew := h.at (Mod.refl _ _).drew
theorem gPts : Tryd.prog.globalNamed "kinora/match.points" = some 0 := by kernel_rfl
theorem tPts : (Tryd.prog.globals[0]?).map (·.type) = some 43 := by kernel_rfl
theorem uP24 : Tryd.prog.underlying 43 = some (.array 24 42) := by kernel_rfl
theorem uP2 : Tryd.prog.underlying 42 = some (.array 2 3) := by kernel_rfl
theorem uPi : Tryd.prog.underlying 3 = some (.int .i64) := by kernel_rfl
theorem cPi : Tryd.prog.cellsOf 3 = 1 := by kernel_rfl
theorem cP2 : Tryd.prog.cellsOf 42 = 2 := by kernel_rfl
theorem cP24 : Tryd.prog.cellsOf 43 = 24 * 2 := by kernel_rfl
theorem laid_eq {H : Type} : (Rows.laid_kinora_match_points : DataW H) = .agg (ptsL.map (Lib.tabData .i64)) := rfl
theorem pts_of_laid {W : World} (h : laidMetH Tryd.prog [("kinora/match.points", Rows.laid_kinora_match_points)] W) : Pts W := by
  rw [MakeChecks.laidMetH_plain _ _ _ (by kernel_rfl)] at h
  obtain ⟨ps, ⟨g0, t0, cs0, f0, p0, q0, hg0, ht0, hv0, hd0, _, _⟩, _⟩ := h
  obtain rfl := Option.some.inj (gPts.symm.trans hg0)
  obtain rfl := Option.some.inj (tPts.symm.trans ht0)
  rw [laid_eq] at hd0
  intro c hc
  have hcell := fun i => World.var?_cell gPts hv0 i
  obtain ⟨z, hz, e0⟩ := cells_of_tab2 uP24 uP2 uPi cPi cP2 cP24 hd0 c 0 hc (by omega)
  obtain ⟨z', hz', e1⟩ := cells_of_tab2 uP24 uP2 uPi cPi cP2 cP24 hd0 c 1 hc (by omega)
  obtain rfl : z = z' := Option.some.inj (hz.symm.trans hz')
  have hl : z.length = 2 := by
    have hall : ∀ z ∈ ptsL, z.length = 2 := by decide
    exact hall z (List.mem_of_getElem? hz)
  match z, hl with
  | [a, b], _ =>
    have ea : ptX c = a := by simp [ptX, List.getD_eq_getElem?_getD, hz]
    have eb : ptY c = b := by simp [ptY, List.getD_eq_getElem?_getD, hz]
    rw [ea, eb, hcell, hcell]
    rw [Nat.add_zero] at e0
    rw [← Array.getElem?_toList, ← Array.getElem?_toList, e0, e1]
    exact ⟨rfl, rfl⟩
theorem door_met (os : Os) (args : Array Value) : laidMetH Tryd.prog [("kinora/match.points", Rows.laid_kinora_match_points)] ((World.doorLaid Tryd.prog 400 os).forCall (fun _ _ => 0) ⟨#[], args, []⟩).memory :=
  laidMetH_of_parts3 (fuel := 8) (laidMet_of_run' 8 (by kernel_rfl) (by kernel_rfl)) (by kernel_rfl) (by kernel_rfl)

end Go.Proofs.YtfanamibkgkaiaaDoor.VG
