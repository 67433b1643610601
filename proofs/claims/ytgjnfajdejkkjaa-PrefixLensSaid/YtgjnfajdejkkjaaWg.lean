/-
  The program's order of a row, whatever its length.
-/
import Derived.Test.YtgjnfajdejkkjaaWf
namespace Go.Proofs.Ytgjnfajdejkkjaa.VG
open Go
set_option linter.unusedSimpArgs false
set_option linter.unusedVariables false
set_option maxRecDepth 20000

set_option maxHeartbeats 2000000 in
theorem stable_c {w : World} {S : List Nd} {B g c : Nat} {r : List Nat} (hg : g < w.heap.size) (hH : Sort.Holds (ndP S) w g 0 r.toArray) (h20 : r.length ≤ 1000000)
    (hB : w.cell? ⟨B, 0, none⟩ = some (.slice (some ⟨g, 0, none⟩) r.length c)) (hBg : B < w.heap.size ∧ B ≠ g) (hN : ∀ i, w.cell? ⟨(ndG S i).b, 0, none⟩ = some (.int .i64 (ndG S i).wt) ∧ (ndG S i).b < w.heap.size ∧ (ndG S i).b ≠ g) :
    Calls Try.prog 52 [.iface 60 (.slice (some ⟨g, 0, none⟩) r.length c), .func (.func 53) #[] #[.pointer (some ⟨B, 0, none⟩)]].toArray w
      (Ret fun x w' => x = .tuple #[] ∧ ∃ n os, w' = Sort.grow (Sort.putRow (ndP S) (Sort.ahead w n) g 0 (srt (ltW S) r).toArray) os) := by
  by_cases h2 : 2 ≤ r.length
  · have hless : LessReads Try.prog 53 #[.pointer (some ⟨B, 0, none⟩)] (ndP S) (ltW S) g 0 r.length w := by
      intro m os dk hs i j hi hj
      obtain ⟨h1, h3⟩ := cell_sorted (m := m) (os := os) (dk := dk) hg hH (by simpa using hs)
      refine (less_c (w := sortWorld (ndP S) w g 0 m dk os) (S := S) (B := B) (blk := g) (n := r.length) (c := c) (r := fun t => dk[t]!) ?_ ?_ ?_ i j (by simpa using hi) (by simpa using hj)).mono ?_
      · rw [h3 B 0 hBg.1 hBg.2]; exact hB
      · exact fun t ht => h1 t (by simpa using ht)
      · exact fun i => by rw [h3 _ 0 (hN i).2.1 (hN i).2.2]; exact (hN i).1
      · rintro e w' ⟨v, rfl, rfl, rfl⟩
        exact ⟨rfl, 1, rfl⟩
    have hsB : sliceBound Try.prog 61 siE 22 (some ⟨g, 0, none⟩) r.length c = #[.slice (some ⟨g, 0, none⟩) r.length c, typeHandle Try.prog 61] := by
      unfold sliceBound; rw [if_neg (swapperK_gt _ _ _ h2)]
    have hW : ∃ os0, stableWorld Try.prog sl8_ren 60 (some ⟨g, 0, none⟩) r.length c w = Sort.grow w os0 := ⟨_, by unfold stableWorld; rw [Sort.alloc_eq_grow, Sort.alloc_eq_grow, Sort.grow_grow]⟩
    obtain ⟨os0, hW⟩ := hW
    have hgg : g < (Sort.grow w os0).heap.size := by rw [Sort.size_grow]; omega
    have hHg := Sort.holds_grow (ndP S) w os0 g 0 r.toArray hg hH
    have C : SC (Sort.grow w os0) S #[.pointer (some ⟨B, 0, none⟩)] (sliceBound Try.prog 61 siE 22 (some ⟨g, 0, none⟩) r.length c) 61 g r.length := by
      refine ⟨hless.grow hg os0, ?_, hgg, ⟨r.toArray, hHg, by simp⟩, by omega⟩
      rw [hsB]
      exact swapSwaps_of_literal true 61 (fun args W => run_callFunc_extern Try.func61 (by kernel_rfl) (by kernel_rfl) (by kernel_rfl) (e := Extern.ReflectliteSwapper.swap true) (by kernel_rfl) args W) 61 siE (by kernel_rfl) (by kernel_rfl) (fun _ => by kernel_rfl) (ndP S) (fun _ => rfl) g 0 r.length c
    have hc := stabF_c C (l := r) (w := Sort.grow w os0) ⟨SW.start hHg, rfl⟩
    refine Any.sort_SliceStable_of_stable sl8 60 61 siT siE (by kernel_rfl) (by kernel_rfl) (by kernel_rfl) (by kernel_rfl) 22 (fun _ => by kernel_rfl) (some ⟨g, 0, none⟩) r.length c (by omega) 61 (by rw [siK _ h2]; kernel_rfl) (.func 53) #[] #[.pointer (some ⟨B, 0, none⟩)] w (fun w' => ∃ n os, w' = Sort.grow (Sort.putRow (ndP S) (Sort.ahead w n) g 0 (srt (ltW S) r).toArray) os) ?_ |>.mono ?_
    · rw [hW]
      refine Calls.mono hc ?_
      rintro e w' ⟨x, rfl, rfl, ⟨⟨n, os, rfl⟩, _⟩, _⟩
      exact ⟨rfl, n, _, by unfold sortWorld; rw [Sort.ahead_grow, Sort.putRow_grow (ndP S) (Sort.ahead w n) _ g 0 _ hg, Sort.grow_grow]⟩
    · rintro e w' ⟨rfl, h⟩
      exact ⟨_, rfl, rfl, h⟩
  · have hS := Any.sort_SliceStable_tiny sl8 60 61 siT siE (by kernel_rfl) (by kernel_rfl) (by kernel_rfl) (by kernel_rfl) 22 (fun _ => by kernel_rfl) (some ⟨g, 0, none⟩) r.length c (by omega)
      (if r.length = 0 then 59 else 60) (by
        rcases Nat.lt_or_ge r.length 1 with h | h
        · rw [show r.length = 0 by omega]; kernel_rfl
        · rw [show r.length = 1 by omega]; kernel_rfl) (.func 53) #[] #[.pointer (some ⟨B, 0, none⟩)] w
    refine Calls.mono hS ?_
    rintro e w' ⟨rfl, os, rfl⟩
    refine ⟨_, rfl, rfl, 0, os, ?_⟩
    rw [srt_small _ _ (by omega), Sort.ahead_zero, Sort.putRow_self _ _ _ _ _ hH]

set_option maxHeartbeats 2000000 in
theorem order_c {w : World} {v : Value} {S : List Nd} {r : List Nat} (h0 : r ≠ []) (hr : w.ownsRow 0 61 1 v r.length (r.map (ndP S))) (h20 : r.length ≤ 1000000)
    (hN : ∀ i, w.cell? ⟨(ndG S i).b, 0, none⟩ = some (.int .i64 (ndG S i).wt) ∧ (ndG S i).b < w.heap.size ∧ v.ownBlock ≠ some (ndG S i).b) :
    Calls Try.prog 34 [v].toArray w (Ret fun x w' => x = .tuple #[] ∧ w'.ownsRow 0 61 1 v r.length ((srt (ltW S) r).map (ndP S)) ∧ Mod (fun k => v.ownBlock = some k) w w') := by
  refine F_sound c34 (by simp [fc34]) ?_
  have hl := hr.1
  rcases hr.2 with ⟨rfl, hh⟩ | ⟨g, cap, cur, rfl, _, hgg, h1, h2, h3, h4⟩
  · exact absurd (List.length_eq_zero_iff.1 hh) h0
  have hg := heap_lt hgg
  simp [fc34, s34]
  refine box_r (.slice (some ⟨g, 0, none⟩) r.length cap) (by simp) ?_
  rintro b w1 rfl hb M1 hsz
  refine ⟨trivial, ?_⟩
  have hbc : w1.cell? ⟨w.heap.size, 0, none⟩ = some (.slice (some ⟨g, 0, none⟩) r.length cap) := by rw [cell_blk hb 0]; rfl
  simp [hbc]
  refine if_r Try.underlying60 (.slice (some ⟨g, 0, none⟩) r.length cap) (by simp) ⟨.inl rfl, ?_⟩
  refine fn_r (.pointer (some ⟨w.heap.size, 0, none⟩)) (by simp) ⟨.inl rfl, ?_⟩
  have hg1 := M1.heap hgg (fun h => h)
  have hH := holds_nd (S := S) (r := r) hg1 (by simpa using h4)
  refine call_h (stable_c (S := S) (B := w.heap.size) (c := cap) (by rw [hsz]; omega) hH h20 hbc ⟨by rw [hsz]; omega, by omega⟩ fun i => ?_) (by simp) ?_
  · obtain ⟨n1, n2, n3⟩ := hN i
    exact ⟨M1.cell n1 (fun h => h), by rw [hsz]; omega, fun e => n3 (by simp [Value.ownBlock, e])⟩
  rintro x w2 ⟨rfl, n, os, rfl⟩
  simp
  have hlen := srt_length (ltW S) r
  refine ⟨⟨by simp [hlen], .inr ⟨g, cap, _, rfl, Nat.zero_le _, heap_nd _ hg1, h1, h2, by simpa [Sort.putCells] using h3, ?_⟩⟩, (M1.mono (fun _ _ h => h.elim)).tr ((mod_nd _).mono ?_)⟩
  · rw [Nat.mul_one, ← hlen]
    exact take_nd cur _ (by omega)
  · rintro k _ rfl
    simp [Value.ownBlock]

end Go.Proofs.Ytgjnfajdejkkjaa.VG
