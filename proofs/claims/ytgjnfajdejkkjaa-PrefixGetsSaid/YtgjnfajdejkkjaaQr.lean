/-
  The table of a code: for each length the first word and the symbols.
-/
import Derived.Test.YtgjnfajdejkkjaaQp
namespace Go.Proofs.Ytgjnfajdejkkjaa.VG
open Go
set_option linter.unusedSimpArgs false
set_option linter.unusedVariables false
set_option maxRecDepth 20000

def upG {α : Type} (f : Nat → α) (o : Nat) (x : α) : Nat → α := fun i => if i = o then x else f i
def tbF (lo : Int) (fi : Nat → Int) (vs : Nat → Value) (o : Nat) : Value := if o = 0 then .int .i64 lo else if o < 26 then .int .u64 (fi (o - 1)) else vs (o - 26)
def tbC (lo : Int) (fi : Nat → Int) (vs : Nat → Value) : Array Value := ((List.range 51).map (tbF lo fi vs)).toArray
theorem tbC_size (lo : Int) (fi : Nat → Int) (vs : Nat → Value) : (tbC lo fi vs).size = 51 := by simp [tbC]
theorem tbC_get (lo : Int) (fi : Nat → Int) (vs : Nat → Value) {o : Nat} (h : o < 51) : (tbC lo fi vs)[o]? = some (tbF lo fi vs o) := by simp [tbC, h]
theorem tbC_set {lo lo' : Int} {fi fi' : Nat → Int} {vs vs' : Nat → Value} {o : Nat} {v : Value} (ho : o < 51) (h : ∀ i, i < 51 → tbF lo' fi' vs' i = if i = o then v else tbF lo fi vs i) : (tbC lo fi vs).setIfInBounds o v = tbC lo' fi' vs' := by
  apply Array.ext
  · simp [tbC]
  · intro i h1 h2
    have hi : i < 51 := by simpa [tbC] using h2
    rw [Array.getElem_setIfInBounds]
    · simp only [tbC, List.getElem_toArray, List.getElem_map, List.getElem_range]
      rw [h i hi]
      by_cases e : o = i
      · subst e; simp
      · rw [if_neg e, if_neg (fun h => e h.symm)]
    · simpa [tbC] using hi
theorem tbC_lo (lo x : Int) (fi : Nat → Int) (vs : Nat → Value) : (tbC lo fi vs).setIfInBounds 0 (.int .i64 x) = tbC x fi vs := tbC_set (by omega) fun i hi => by
  unfold tbF
  by_cases h : i = 0 <;> simp [h]
theorem tbC_fi (lo x : Int) (fi : Nat → Int) (vs : Nat → Value) {n : Nat} (hn : n < 25) : (tbC lo fi vs).setIfInBounds (1 + n) (.int .u64 x) = tbC lo (upG fi n x) vs := tbC_set (by omega) fun i hi => by
  unfold tbF upG
  by_cases h : i = 1 + n
  · subst h
    rw [if_neg (by omega), if_pos (by omega), if_pos (by omega), if_pos rfl]
  · rw [if_neg h]
    by_cases h0 : i = 0
    · rw [if_pos h0, if_pos h0]
    · rw [if_neg h0, if_neg h0]
      by_cases h1 : i < 26
      · rw [if_pos h1, if_pos h1, if_neg (by omega)]
      · rw [if_neg h1, if_neg h1]
theorem tbC_vs (lo : Int) (fi : Nat → Int) (vs : Nat → Value) (v : Value) {n : Nat} (hn : n < 25) : (tbC lo fi vs).setIfInBounds (26 + n) v = tbC lo fi (upG vs n v) := tbC_set (by omega) fun i hi => by
  unfold tbF upG
  by_cases h : i = 26 + n
  · subst h
    rw [if_neg (by omega), if_neg (by omega), if_pos (by omega), if_pos rfl]
  · rw [if_neg h]
    by_cases h0 : i = 0
    · rw [if_pos h0, if_pos h0]
    · rw [if_neg h0, if_neg h0]
      by_cases h1 : i < 26
      · rw [if_pos h1, if_pos h1]
      · rw [if_neg h1, if_neg h1, if_neg (by omega)]

structure Tb (w : World) (t : Nat) (lo : Int) (fi : Nat → Int) (sy : Nat → List Nat) (vs : Nat → Value) : Prop where
  blk : ∃ el, w.heap[t]? = some (.cells (tbC lo fi vs) el (0, 0))
  row : ∀ n, n < 25 → w.ownsRow 0 3 1 (vs n) (sy n).length (natsV (sy n))
  ne : ∀ n m, n < 25 → m < 25 → n ≠ m → ∀ k, (vs n).ownBlock = some k → (vs m).ownBlock ≠ some k
  nt : ∀ n, n < 25 → (vs n).ownBlock ≠ some t
theorem Tb.mod {w w' : World} {t : Nat} {lo : Int} {fi : Nat → Int} {sy : Nat → List Nat} {vs : Nat → Value} {S : Nat → Prop} (h : Tb w t lo fi sy vs) (m : Mod S w w') (d : ¬ S t) (e : ∀ n, n < 25 → ∀ k, (vs n).ownBlock = some k → ¬ S k) : Tb w' t lo fi sy vs :=
  ⟨by obtain ⟨el, hb⟩ := h.blk; exact ⟨el, m.heap hb d⟩, fun n hn => m.owns (h.row n hn) (e n hn), h.ne, h.nt⟩
def tbB (t : Nat) (vs : Nat → Value) (k : Nat) : Prop := k = t ∨ ∃ n, n < 25 ∧ (vs n).ownBlock = some k
def It.tb (t : Nat) (lo : Int) (fi : Nat → Int) (sy : Nat → List Nat) : It where
  P w F := ∃ vs, Tb w t lo fi sy vs ∧ ∀ k, F k ↔ tbB t vs k
  st := fun ⟨vs, h, hF⟩ m d => ⟨vs, h.mod m (d _ ((hF _).2 (.inl rfl))) (fun n hn k hk => d k ((hF k).2 (.inr ⟨n, hn, hk⟩))), hF⟩
  lt := fun ⟨vs, h, hF⟩ k hk => by
    rcases (hF k).1 hk with rfl | ⟨n, hn, e⟩
    · obtain ⟨el, hb⟩ := h.blk; exact heap_lt hb
    · exact ((h.row n hn).lt k e).2
theorem Tb.cell {w : World} {t : Nat} {lo : Int} {fi : Nat → Int} {sy : Nat → List Nat} {vs : Nat → Value} (h : Tb w t lo fi sy vs) {o : Nat} (ho : o < 51) : w.cell? ⟨t, o, none⟩ = some (tbF lo fi vs o) := by
  obtain ⟨el, hb⟩ := h.blk
  rw [cell_blk hb, tbC_get _ _ _ ho]
theorem Tb.set {w w' : World} {t : Nat} {lo lo' : Int} {fi fi' : Nat → Int} {sy : Nat → List Nat} {vs : Nat → Value} {el : TypeId} (h : Tb w t lo fi sy vs) (m : Mod (fun k => k = t) w w') (hb : w'.heap[t]? = some (.cells (tbC lo' fi' vs) el (0, 0))) : Tb w' t lo' fi' sy vs :=
  ⟨⟨el, hb⟩, fun n hn => m.owns (h.row n hn) (fun k hk e => h.nt n hn (by rw [hk, e])), h.ne, h.nt⟩

/-! ### What the table holds -/
def stepT (l : List Int) (st : Int × (Nat → Int) × (Nat → List Nat)) (s : Nat) : Int × (Nat → Int) × (Nat → List Nat) :=
  (gi l s, if st.2.2 (gi l s).toNat = [] then upG st.2.1 (gi l s).toNat (gi (cdW l) s) else st.2.1, upG st.2.2 (gi l s).toNat (st.2.2 (gi l s).toNat ++ [s]))
def tbl (l : List Int) (i : Nat) : Int × (Nat → Int) × (Nat → List Nat) := ((rk l).take i).foldl (stepT l) (0, (fun _ => 0), fun _ => [])
theorem tbl_snoc {l : List Int} {i : Nat} (h : i < (rk l).length) : tbl l (i + 1) = stepT l (tbl l i) (gnn (rk l) i) := by
  unfold tbl
  rw [gnn_take h, List.foldl_append]; rfl
theorem tbl_len (l : List Int) (n : Nat) : ∀ i, i ≤ (rk l).length → ((tbl l i).2.2 n).length ≤ i
  | 0, _ => by simp [tbl]
  | i + 1, h => by
    have ih := tbl_len l n i (by omega)
    have ih2 := tbl_len l (gi l (gnn (rk l) i)).toNat i (by omega)
    rw [tbl_snoc (by omega)]
    show (if n = (gi l (gnn (rk l) i)).toNat then (tbl l i).2.2 (gi l (gnn (rk l) i)).toNat ++ [gnn (rk l) i] else (tbl l i).2.2 n).length ≤ _
    split
    · rw [List.length_append, List.length_singleton]; omega
    · omega

end Go.Proofs.Ytgjnfajdejkkjaa.VG
