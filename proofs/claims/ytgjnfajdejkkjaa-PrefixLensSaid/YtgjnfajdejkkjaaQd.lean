/-
  The row of the coins and of the packages of a row.
-/
import Derived.Test.YtgjnfajdejkkjaaQc
import Derived.Test.YtgjnfajdejkkjaaCm
namespace Go.Proofs.Ytgjnfajdejkkjaa.VG
open Go
set_option linter.unusedSimpArgs false
set_option linter.unusedVariables false
set_option maxRecDepth 20000

def plN (n : Nd) : Int × Int × Option (Nat × Nat) := (n.wt, n.sy, n.pr.map fun p => p.2)
def gn (r : List Nat) (i : Nat) : Nat := r.getD i 0
def pk1 (f : Nat → Int) (r : List Nat) (k : Nat) : Int × Int × Option (Nat × Nat) := (f (gn r (2 * k)) + f (gn r (2 * k + 1)), 0, some (gn r (2 * k), gn r (2 * k + 1)))
/-- The packages of a row, as weights go by number. -/
def pkL (f : Nat → Int) (r : List Nat) : List (Int × Int × Option (Nat × Nat)) := (List.range (r.length / 2)).map (pk1 f r)
def wS (S : List Nd) (i : Nat) : Int := (ndG S i).wt
/-- The row ahead of its sort: the coins, then the new ones. -/
def nxtR (n : Nat) (c : List Nat) (k : Nat) : List Nat := c ++ List.range' n k

theorem gn_lt {r : List Nat} {i : Nat} (h : i < r.length) : r[i]? = some (gn r i) := by
  unfold gn
  rw [List.getD_eq_getElem?_getD, List.getElem?_eq_getElem h]; rfl
theorem gn_mem {r : List Nat} {i : Nat} (h : i < r.length) : gn r i ∈ r := List.mem_of_getElem? (gn_lt h)
theorem rd_nd {G : Nat → Prop} {w : World} {v : Value} {S : List Nd} {r : List Nat} (h : Rd G w v r.length (r.map (ndP S))) (i : Nat) (hi : i < r.length) : w.cell? ((slB v).add i) = some (ndP S (gn r i)) := by
  refine h.cell i _ ?_
  rw [List.getElem?_map, gn_lt hi]; rfl

def NInv (w : World) (u v : Value) (S : List Nd) (c r : List Nat) (k : Nat) (env' : Env) (w' : World) : Prop :=
  env' 0 = u ∧ env' 1 = v ∧ env' 6 = .int .i64 (2 * k : Nat) ∧ ∃ T : List Nd, T.length = k ∧ T.map plN = (List.range k).map (pk1 (wS S) r) ∧ Wf (S ++ T) ∧
    ∃ v', env' 5 = v' ∧ Hp w w' [.own 61 1 v' (c.length + k) ((nxtR S.length c k).map (ndP (S ++ T))), .nd (S ++ T) T]

theorem map_app {S T : List Nd} {l : List Nat} (h : ∀ i ∈ l, i < S.length) : l.map (ndP (S ++ T)) = l.map (ndP S) := List.map_congr_left fun i hi => ndP_app (h i hi)
theorem nxtR_bd {n : Nat} {c : List Nat} {k : Nat} (h : ∀ i ∈ c, i < n) : ∀ i ∈ nxtR n c k, i < n + k := by
  intro i hi
  unfold nxtR at hi
  rcases List.mem_append.1 hi with hi | hi
  · have := h i hi; omega
  · rw [List.mem_range'_1] at hi; omega
theorem nxtR_snoc {n : Nat} {c : List Nat} {k : Nat} : nxtR n c (k + 1) = nxtR n c k ++ [n + k] := by
  unfold nxtR
  rw [List.range'_concat, List.append_assoc]; simp

set_option maxHeartbeats 4000000 in
theorem next_c {G G' : Nat → Prop} {w : World} {u v : Value} {S : List Nd} {c r : List Nat} (h0 : S ≠ []) (hW : Wf S) (hL : Lies w S S) (hc : Rd G w u c.length (c.map (ndP S))) (hr : Rd G' w v r.length (r.map (ndP S)))
    (hcv : ∀ i ∈ c, i < S.length) (hrv : ∀ i ∈ r, i < S.length) (hc0 : c ≠ []) (hn : c.length + r.length / 2 ≤ 1000000) (hrl : r.length ≤ 1000000) (hw : ∀ i, 0 ≤ wS S i ∧ wS S i ≤ 4611686018427387903) :
    Calls Try.prog 35 [u, v].toArray w (Ret fun x w' => ∃ T : List Nd, T.length = r.length / 2 ∧ T.map plN = pkL (wS S) r ∧ Wf (S ++ T) ∧
      Hp w w' [.own 61 1 x (c.length + r.length / 2) ((srt (ltW (S ++ T)) (nxtR S.length c (r.length / 2))).map (ndP (S ++ T))), .nd (S ++ T) T]) := by
  refine F_sound c35 (by simp [fc35]) ?_
  obtain ⟨hS, hSL⟩ := hr.sl
  have hM : maxLen = 9223372036854775807 := rfl
  simp [fc35, s35]
  have H : Hp w w [.own 61 1 (.slice none 0 0) 0 []] := (Hp.nil w).nilS
  refine app_h slTE 0 H rfl hc (by simp) (by intro y hy; simp only [List.mem_map] at hy; obtain ⟨i, _, rfl⟩ := hy; rfl) (by omega) (by omega) (by simp) (by simp) ?_
  intro v1 w1 H
  refine ⟨.inl rfl, ?_⟩
  simp
  refine for_r (r.length / 2) (NInv w u v S c r) ?_ ?_ ?_
  · refine ⟨by simp, by simp, by simp, [], rfl, rfl, by simpa using hW, v1, by simp, ?_⟩
    have := H.add (i := It.nd (S ++ []) []) (F := fun _ => False) (Mod.refl _ _) ⟨(fun n hn => by cases hn), fun k => ⟨fun h => h.elim, fun ⟨n, hn, _⟩ => by cases hn⟩⟩ (fun k hk => hk.elim)
    simpa [nxtR] using this
  · rintro k env w2 hk ⟨e0, e1, e6, T, hT, hp, hWT, ve, e5, H⟩
    have hk2 : 2 * k + 1 < r.length := by omega
    have w1' : IntKind.i64.wrap ((2 * k : Nat) + 1 : Int) = ((2 * k + 1 : Nat) : Int) := by rw [wI (by omega) (by omega)]; omega
    have w2' : IntKind.i64.wrap ((2 * k : Nat) + 2 : Int) = ((2 * (k + 1) : Nat) : Int) := by rw [wI (by omega) (by omega)]; omega
    generalize hq : 2 * k = q at *
    have ca := rd_nd (hr.at H.mod.drew) q (by omega)
    have cb := rd_nd (hr.at H.mod.drew) (q + 1) (by omega)
    obtain ⟨pv, _⟩ := hr.ptr (by simp; omega)
    have hLw := hL.same H.mod.drew
    have na := (hLw.cells (ndG_mem h0 (gn r q))).1
    have nb := (hLw.cells (ndG_mem h0 (gn r (q + 1)))).1
    have ba := hw (gn r q)
    have bb := hw (gn r (q + 1))
    unfold wS at ba bb
    have ws : IntKind.i64.wrap ((ndG S (gn r q)).wt + (ndG S (gn r (q + 1))).wt) = (ndG S (gn r q)).wt + (ndG S (gn r (q + 1))).wt := wI (by omega) (by omega)
    unfold ndP at ca cb
    simp [e0, e1, e6, hS, hSL, w1', -Int.natCast_add]
    refine ite_r (t := true) (by simp; omega) (fun _ => ?_) (fun h => by cases h)
    simp [wp_blk, wp_draw, e0, e1, e6, hS, hSL, w1', pv, ca, cb, na, nb, ws, hk2, show q < r.length by omega, -Int.natCast_add]
    have a1 := hrv _ (gn_mem (r := r) (i := q) (by omega))
    have b1 := hrv _ (gn_mem (r := r) (i := q + 1) (by omega))
    refine bs_h slTE [ndP S (gn r q), ndP S (gn r (q + 1))] H.drew rfl (by omega) (by simp [ndP]) (by simp; exact ⟨rfl, rfl⟩) ?_
    intro p w3 H M3
    refine ⟨.inr (by
      simp [promsOk, promOk, e0, e1, e6, w1', -Int.natCast_add]
      exact ⟨same_one nb (M3.cell nb (fun h => h)), same_one cb (M3.cell cb (fun h => h)), same_one na (M3.cell na (fun h => h)), same_one ca (M3.cell ca (fun h => h))⟩), ?_⟩
    obtain ⟨pg, cp, hpp⟩ : ∃ g cp, p = .slice (some ⟨g, 0, none⟩) 2 cp := by
      rcases (H.own 2 rfl).2 with ⟨_, h⟩ | ⟨g, cp, _, h, _⟩
      · omega
      · exact ⟨g, cp, h⟩
    simp [ws, putAt, Value.cells, hpp]
    rw [hpp] at H
    refine box_h (.agg #[.int .i64 ((ndG S (gn r q)).wt + (ndG S (gn r (q + 1))).wt), .int .i64 0, .slice (some ⟨pg, 0, none⟩) 2 cp]) H (by simp [ws, putAt, Value.cells]) ?_
    intro b w4 H M4
    refine ⟨.inl rfl, ?_⟩
    simp
    refine app1_h slTE 0 H rfl (u := .pointer (some ⟨b, 0, none⟩)) rfl (by omega) (by omega) (by simp) (by simp [e5]) (by simp) (fun _ _ => trivial) ?_
    intro vb v' w5 w6 H
    refine ⟨.inl rfl, ?_⟩
    simp [e6, w2', -Int.natCast_add]
    let n : Nd := ⟨b, (ndG S (gn r q)).wt + (ndG S (gn r (q + 1))).wt, 0, some (.slice (some ⟨pg, 0, none⟩) 2 cp, gn r q, gn r (q + 1))⟩
    have hWn : Wf (S ++ T ++ [n]) := hWT.snoc n (fun p' i j e => by
      simp only [n, Option.some.injEq, Prod.mk.injEq] at e
      obtain ⟨_, rfl, rfl⟩ := e
      simp only [List.length_append]
      omega)
    rw [List.append_assoc] at hWn
    refine ⟨by simp [e0], by simp [e1], by simp, T ++ [n], by simp [hT], ?_, hWn, v', by simp, ?_⟩
    · rw [List.map_append, hp, List.range_succ, List.map_append]
      simp [plN, pk1, n, wS, hq]
    · have H1 : Hp w w6 ([.own 61 1 v' (c.length + k + 1) ((nxtR S.length c k).map (ndP (S ++ T)) ++ [.pointer (some ⟨b, 0, none⟩)]), .nd (S ++ T) T] ++ [.own 61 1 (.slice (some ⟨pg, 0, none⟩) 2 cp) 2 [ndP S (gn r q), ndP S (gn r (q + 1))], .blk b (ndC n)]) := H
      have H2 := Hp.fuse _ (.nd (S ++ (T ++ [n])) [n]) H1 (fun F1 F2 h1 h2 => nd_pack (by rw [ndP_app a1, ndP_app b1]; exact h1) h2)
      have H3 : Hp w w6 ([.own 61 1 v' (c.length + k + 1) ((nxtR S.length c k).map (ndP (S ++ T)) ++ [.pointer (some ⟨b, 0, none⟩)])] ++ [.nd (S ++ T) T, .nd (S ++ (T ++ [n])) [n]]) := H2
      have H4 := Hp.fuse _ (.nd (S ++ (T ++ [n])) (T ++ [n])) H3 (fun F1 F2 h1 h2 => nd_join h1 h2 (fun hl => by
        rw [← List.append_assoc]
        exact hl.more (fun m hm => hWT.bound m (by simp [hm]))))
      have e1 : (nxtR S.length c k).map (ndP (S ++ T)) ++ [Value.pointer (some ⟨b, 0, none⟩)] = (nxtR S.length c (k + 1)).map (ndP (S ++ (T ++ [n]))) := by
        have hl : (S ++ T).length = S.length + k := by simp [hT]
        rw [nxtR_snoc, List.map_append, ← List.append_assoc, map_app (S := S ++ T) (T := [n]) (fun i hi => by rw [hl]; exact nxtR_bd hcv i hi), List.map_singleton, ← hl]
        unfold ndP
        rw [ndG_new]
      rw [e1] at H4
      exact H4
  · rintro env w2 ⟨e0, e1, e6, T, hT, hp, hWT, ve, e5, H⟩
    generalize hq : 2 * (r.length / 2) = q at e6
    have w1' : IntKind.i64.wrap ((q : Int) + 1) = ((q + 1 : Nat) : Int) := by rw [wI (by omega) (by omega)]; omega
    simp [e0, e1, e6, hS, hSL, w1', -Int.natCast_add]
    refine ite_r (t := false) (by simp; omega) (fun h => by cases h) (fun _ => ?_)
    simp
    have hlR : (nxtR S.length c (r.length / 2)).length = c.length + r.length / 2 := by simp [nxtR]
    have hT0 : S ++ T ≠ [] := by simp [h0]
    obtain ⟨F1, F2, p1, p2, hF, hd⟩ := H.apart
    have hLT : Lies w2 (S ++ T) (S ++ T) := lies_app.2 ⟨(hL.same H.mod).more (fun n hn => hW.bound n hn), p2.1⟩
    have own := p1.1
    rw [← hlR] at own
    refine call_h (order_c (S := S ++ T) (r := nxtR S.length c (r.length / 2)) (by simp [nxtR, hc0]) own (by omega) fun i => ?_) (by simp [e5]) ?_
    · have hm := ndG_mem hT0 i
      refine ⟨(hLT.cells hm).1, hLT.lt _ ⟨_, hm, .inl rfl⟩, fun e => ?_⟩
      rcases List.mem_append.1 hm with hm | hm
      · have h1 := hL.lt _ ⟨_, hm, .inl rfl⟩
        have h2 := hF _ (by rw [p1.2]; exact e)
        omega
      · exact hd _ (by rw [p1.2]; exact e) ((p2.2 _).2 ⟨_, hm, .inl rfl⟩)
    rintro x w3 ⟨rfl, ho, M⟩
    simp [e5]
    refine ⟨T, hT, hp, hWT, ?_⟩
    obtain ⟨F, ⟨_, rfl⟩, _, up⟩ := H.upd 0 rfl
    rw [hlR] at ho
    exact up (.own 61 1 ve (c.length + r.length / 2) ((srt (ltW (S ++ T)) (nxtR S.length c (r.length / 2))).map (ndP (S ++ T)))) w3 _ M ⟨ho, rfl⟩ (fun k hk => .inl hk)

end Go.Proofs.Ytgjnfajdejkkjaa.VG
