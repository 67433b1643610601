/-
  Elements as they lie: a growing list of nodes, told by number (and what goes with it: parts Qc Qd Qe).
-/
import Derived.Test.YtgjnfajdejkkjaaWg
import Derived.Test.YtgjnfajdejkkjaaCm

/-! ## Elements as they lie: a growing list of nodes, told by number. -/
namespace Go.Proofs.Ytgjnfajdejkkjaa.VG
open Go
set_option linter.unusedSimpArgs false
set_option linter.unusedVariables false
set_option maxRecDepth 20000

theorem slTE : SlT Try.prog 60 61 1 8 := ⟨by kernel_rfl, ⟨_, _, rfl, rfl, rfl, rfl, rfl⟩, by omega⟩

theorem Sep.fuse {B : Nat} {w : World} {i1 i2 i3 : It} (hi : ∀ F1 F2, i1.P w F1 → i2.P w F2 → i3.P w (fun k => F1 k ∨ F2 k)) : ∀ {l : List It} {Fs : List (Nat → Prop)}, Sep B w (l ++ [i1, i2]) Fs →
    ∃ Gs, Sep B w (l ++ [i3]) Gs ∧ (∀ K : Nat → Prop, (∀ G ∈ Fs, ∀ k, K k → ¬ G k) → ∀ G ∈ Gs, ∀ k, K k → ¬ G k)
  | [], Fs, h => by
    match Fs, h with
    | [F1, F2], ⟨h1, h2, h3, h4, h5, h6, h7⟩ =>
      refine ⟨[fun k => F1 k ∨ F2 k], ⟨hi F1 F2 h1 h4, fun k hk => hk.elim (h2 k) (h5 k), (fun _ h => by cases h), trivial⟩, ?_⟩
      intro K hK G hG k hk
      simp only [List.mem_singleton] at hG
      subst hG
      exact fun h => h.elim (hK F1 (by simp) k hk) (hK F2 (by simp) k hk)
  | i :: l, Fs, h => by
    match Fs, h with
    | F :: Fs, ⟨h1, h2, h3, h4⟩ =>
      obtain ⟨Gs, g1, g2⟩ := Sep.fuse hi h4
      refine ⟨F :: Gs, ⟨h1, h2, g2 F h3, g1⟩, ?_⟩
      intro K hK L hL
      rcases List.mem_cons.1 hL with rfl | hL
      · exact hK _ (List.mem_cons_self ..)
      · exact g2 K (fun G hG => hK G (List.mem_cons_of_mem _ hG)) L hL
/-- The last two things told as one. -/
theorem Hp.fuse {W w : World} {i1 i2 : It} (l : List It) (i3 : It) (h : Hp W w (l ++ [i1, i2])) (hi : ∀ F1 F2, i1.P w F1 → i2.P w F2 → i3.P w (fun k => F1 k ∨ F2 k)) : Hp W w (l ++ [i3]) := by
  obtain ⟨Fs, hs⟩ := h.sep
  obtain ⟨Gs, g, _⟩ := Sep.fuse hi hs
  exact ⟨h.mod, Gs, g⟩
/-- The first two things lie apart. -/
theorem Hp.apart {W w : World} {i1 i2 : It} {l : List It} (h : Hp W w (i1 :: i2 :: l)) : ∃ F1 F2, i1.P w F1 ∧ i2.P w F2 ∧ (∀ k, F1 k → W.heap.size ≤ k) ∧ ∀ k, F1 k → ¬ F2 k := by
  obtain ⟨Fs, hs⟩ := h.sep
  match Fs, hs with
  | F1 :: F2 :: Fs, ⟨h1, h2, h3, h4, _⟩ => exact ⟨F1, F2, h1, h4, h2, h3 F2 (List.mem_cons_self ..)⟩

/-! ### Nodes -/
def ndV (n : Nd) : Value := match n.pr with | none => .slice none 0 0 | some p => p.1
def ndC (n : Nd) : Array Value := #[.int .i64 n.wt, .int .i64 n.sy, ndV n]
/-- The nodes T lie in w; whom their pairs name is told by S. -/
def Lies (w : World) (S T : List Nd) : Prop :=
  ∀ n ∈ T, (∃ el, w.heap[n.b]? = some (.cells (ndC n) el (0, 0))) ∧ ∀ p i j, n.pr = some (p, i, j) → w.ownsRow 0 61 1 p 2 [ndP S i, ndP S j]
def ndB (T : List Nd) (k : Nat) : Prop := ∃ n ∈ T, k = n.b ∨ ∃ p i j, n.pr = some (p, i, j) ∧ p.ownBlock = some k
theorem Lies.st {w w' : World} {S T : List Nd} {F : Nat → Prop} (h : Lies w S T) (m : Mod F w w') (d : ∀ k, ndB T k → ¬ F k) : Lies w' S T := fun n hn => by
  obtain ⟨⟨el, h1⟩, h2⟩ := h n hn
  exact ⟨⟨el, m.heap h1 (d _ ⟨n, hn, .inl rfl⟩)⟩, fun p i j e => m.owns (h2 p i j e) (fun b hb => d b ⟨n, hn, .inr ⟨p, i, j, e, hb⟩⟩)⟩
theorem Lies.lt {w : World} {S T : List Nd} (h : Lies w S T) (k : Nat) (hk : ndB T k) : k < w.heap.size := by
  obtain ⟨n, hn, hk⟩ := hk
  obtain ⟨⟨el, h1⟩, h2⟩ := h n hn
  rcases hk with rfl | ⟨p, i, j, e, hb⟩
  · exact heap_lt h1
  · exact ((h2 p i j e).lt k hb).2
def It.nd (S T : List Nd) : It where
  P w F := Lies w S T ∧ ∀ k, F k ↔ ndB T k
  st := fun ⟨h, hF⟩ m d => ⟨h.st m (fun k hk => d k ((hF k).2 hk)), hF⟩
  lt := fun ⟨h, hF⟩ k hk => h.lt k ((hF k).1 hk)
/-- Pairs name earlier nodes. -/
def Wf (S : List Nd) : Prop := ∀ (k : Nat) (n : Nd), S[k]? = some n → ∀ (p : Value) (i j : Nat), n.pr = some (p, i, j) → i < k ∧ j < k
theorem ndG_app {S T : List Nd} {i : Nat} (h : i < S.length) : ndG (S ++ T) i = ndG S i := by
  unfold ndG
  rw [List.getElem?_append_left h, List.getElem?_eq_getElem h]
  rfl
theorem ndP_app {S T : List Nd} {i : Nat} (h : i < S.length) : ndP (S ++ T) i = ndP S i := by unfold ndP; rw [ndG_app h]
theorem ndG_new {S : List Nd} {n : Nd} : ndG (S ++ [n]) S.length = n := by simp [ndG]
theorem ndG_at {S : List Nd} {i : Nat} {n : Nd} (h : S[i]? = some n) : ndG S i = n := by simp [ndG, h]
theorem ndG_mem {S : List Nd} (h0 : S ≠ []) (i : Nat) : ndG S i ∈ S := by
  unfold ndG
  rcases e : S[i]? with _ | n
  · cases S with
    | nil => exact absurd rfl h0
    | cons a r => simp
  · simpa using List.mem_of_getElem? e
/-- More nodes tell the same of the earlier ones. -/
theorem Lies.more {w : World} {S T U : List Nd} (h : Lies w S T) (hv : ∀ n ∈ T, ∀ p i j, n.pr = some (p, i, j) → i < S.length ∧ j < S.length) : Lies w (S ++ U) T := fun n hn => by
  obtain ⟨h1, h2⟩ := h n hn
  refine ⟨h1, fun p i j e => ?_⟩
  obtain ⟨a, b⟩ := hv n hn p i j e
  rw [ndP_app a, ndP_app b]
  exact h2 p i j e
theorem Wf.bound {S : List Nd} (h : Wf S) : ∀ n ∈ S, ∀ p i j, n.pr = some (p, i, j) → i < S.length ∧ j < S.length := fun n hn p i j e => by
  obtain ⟨k, hk, rfl⟩ := List.mem_iff_getElem.1 hn
  have := h k S[k] (List.getElem?_eq_getElem hk) p i j e
  omega
theorem Wf.snoc {S : List Nd} (h : Wf S) (n : Nd) (hn : ∀ p i j, n.pr = some (p, i, j) → i < S.length ∧ j < S.length) : Wf (S ++ [n]) := fun k m hm p i j e => by
  rcases Nat.lt_trichotomy k S.length with hk | hk | hk
  · rw [List.getElem?_append_left hk] at hm
    exact h k m hm p i j e
  · subst hk
    simp at hm
    subst hm
    exact hn p i j e
  · rw [List.getElem?_eq_none (by simp; omega)] at hm
    cases hm
theorem lies_app {w : World} {S T U : List Nd} : Lies w S (T ++ U) ↔ Lies w S T ∧ Lies w S U := by
  constructor
  · exact fun h => ⟨fun n hn => h n (by simp [hn]), fun n hn => h n (by simp [hn])⟩
  · rintro ⟨h, k⟩ n hn
    rcases List.mem_append.1 hn with hn | hn
    · exact h n hn
    · exact k n hn
theorem ndB_app {T U : List Nd} (k : Nat) : ndB (T ++ U) k ↔ ndB T k ∨ ndB U k := by
  constructor
  · rintro ⟨n, hn, h⟩
    rcases List.mem_append.1 hn with hn | hn
    · exact .inl ⟨n, hn, h⟩
    · exact .inr ⟨n, hn, h⟩
  · rintro (⟨n, hn, h⟩ | ⟨n, hn, h⟩)
    · exact ⟨n, by simp [hn], h⟩
    · exact ⟨n, by simp [hn], h⟩
/-- A coin's block. -/
theorem nd_coin {w : World} {S : List Nd} {b : Nat} {a s : Int} {F : Nat → Prop} (h : (It.blk b (ndC ⟨b, a, s, none⟩)).P w F) : (It.nd S [⟨b, a, s, none⟩]).P w F := by
  obtain ⟨h1, rfl⟩ := h
  refine ⟨fun n hn => ?_, fun k => ?_⟩
  · simp only [List.mem_singleton] at hn
    subst hn
    exact ⟨h1, fun p i j e => by cases e⟩
  · simp [ndB]
/-- A package's two blocks. -/
theorem nd_pack {w : World} {S : List Nd} {b i j : Nat} {a s : Int} {p : Value} {F G : Nat → Prop} (h : (It.own 61 1 p 2 [ndP S i, ndP S j]).P w F) (k : (It.blk b (ndC ⟨b, a, s, some (p, i, j)⟩)).P w G) :
    (It.nd S [⟨b, a, s, some (p, i, j)⟩]).P w (fun k => F k ∨ G k) := by
  obtain ⟨h1, rfl⟩ := h
  obtain ⟨k1, rfl⟩ := k
  refine ⟨fun n hn => ?_, fun k => ?_⟩
  · simp only [List.mem_singleton] at hn
    subst hn
    refine ⟨k1, fun p' i' j' e => ?_⟩
    simp only [Option.some.injEq, Prod.mk.injEq] at e
    obtain ⟨rfl, rfl, rfl⟩ := e
    exact h1
  · simp [ndB, or_comm]
/-- Nodes and a new one. -/
theorem nd_join {w : World} {S S' T U : List Nd} {F G : Nat → Prop} (h : (It.nd S T).P w F) (k : (It.nd S' U).P w G) (hm : Lies w S T → Lies w S' T) : (It.nd S' (T ++ U)).P w (fun k => F k ∨ G k) :=
  ⟨lies_app.2 ⟨hm h.1, k.1⟩, fun x => by
    show (F x ∨ G x) ↔ _
    rw [h.2 x, k.2 x, ndB_app]⟩
theorem Lies.cells {w : World} {S T : List Nd} (h : Lies w S T) {n : Nd} (hn : n ∈ T) : w.cell? ⟨n.b, 0, none⟩ = some (.int .i64 n.wt) ∧ w.cell? ⟨n.b, 1, none⟩ = some (.int .i64 n.sy) ∧ w.cell? ⟨n.b, 2, none⟩ = some (ndV n) := by
  obtain ⟨⟨el, h1⟩, _⟩ := h n hn
  refine ⟨?_, ?_, ?_⟩ <;> rw [cell_blk h1] <;> rfl
theorem Lies.same {w w' : World} {S T : List Nd} (h : Lies w S T) (m : Mod none' w w') : Lies w' S T := h.st m (fun _ _ h => h)

end Go.Proofs.Ytgjnfajdejkkjaa.VG

/-! ## The row of the coins and of the packages of a row. -/
namespace Go.Proofs.Ytgjnfajdejkkjaa.VG
open Go
set_option linter.unusedSimpArgs false
set_option linter.unusedVariables false
set_option maxRecDepth 20000

def plN (n : Nd) : Int × Int × Option (Nat × Nat) := (n.wt, n.sy, n.pr.map fun p => p.2)
def gn (r : List Nat) (i : Nat) : Nat := r.getD i 0
def pk1 (f : Nat → Int) (r : List Nat) (k : Nat) : Int × Int × Option (Nat × Nat) := (f (gn r (2 * k)) + f (gn r (2 * k + 1)), 0, some (gn r (2 * k), gn r (2 * k + 1)))
/-- The packages of a row, as weights go by number. -/
def pkL (f : Nat → Int) (r : List Nat) : List (Int × Int × Option (Nat × Nat)) := (List.range (r.length / 2)).map (pk1 f r)
def wS (S : List Nd) (i : Nat) : Int := (ndG S i).wt
/-- The row ahead of its sort: the coins, then the new ones. -/
def nxtR (n : Nat) (c : List Nat) (k : Nat) : List Nat := c ++ List.range' n k

theorem gn_lt {r : List Nat} {i : Nat} (h : i < r.length) : r[i]? = some (gn r i) := by
  unfold gn
  rw [List.getD_eq_getElem?_getD, List.getElem?_eq_getElem h]; rfl
theorem gn_mem {r : List Nat} {i : Nat} (h : i < r.length) : gn r i ∈ r := List.mem_of_getElem? (gn_lt h)
theorem rd_nd {G : Nat → Prop} {w : World} {v : Value} {S : List Nd} {r : List Nat} (h : Rd G w v r.length (r.map (ndP S))) (i : Nat) (hi : i < r.length) : w.cell? ((slB v).add i) = some (ndP S (gn r i)) := by
  refine h.cell i _ ?_
  rw [List.getElem?_map, gn_lt hi]; rfl

def NInv (w : World) (u v : Value) (S : List Nd) (c r : List Nat) (k : Nat) (env' : Env) (w' : World) : Prop :=
  env' 0 = u ∧ env' 1 = v ∧ env' 6 = .int .i64 (2 * k : Nat) ∧ ∃ T : List Nd, T.length = k ∧ T.map plN = (List.range k).map (pk1 (wS S) r) ∧ Wf (S ++ T) ∧
    ∃ v', env' 5 = v' ∧ Hp w w' [.own 61 1 v' (c.length + k) ((nxtR S.length c k).map (ndP (S ++ T))), .nd (S ++ T) T]

theorem map_app {S T : List Nd} {l : List Nat} (h : ∀ i ∈ l, i < S.length) : l.map (ndP (S ++ T)) = l.map (ndP S) := List.map_congr_left fun i hi => ndP_app (h i hi)
theorem nxtR_bd {n : Nat} {c : List Nat} {k : Nat} (h : ∀ i ∈ c, i < n) : ∀ i ∈ nxtR n c k, i < n + k := by
  intro i hi
  unfold nxtR at hi
  rcases List.mem_append.1 hi with hi | hi
  · have := h i hi; omega
  · rw [List.mem_range'_1] at hi; omega
theorem nxtR_snoc {n : Nat} {c : List Nat} {k : Nat} : nxtR n c (k + 1) = nxtR n c k ++ [n + k] := by
  unfold nxtR
  rw [List.range'_concat, List.append_assoc]; simp

set_option maxHeartbeats 4000000 in
theorem next_c {G G' : Nat → Prop} {w : World} {u v : Value} {S : List Nd} {c r : List Nat} (h0 : S ≠ []) (hW : Wf S) (hL : Lies w S S) (hc : Rd G w u c.length (c.map (ndP S))) (hr : Rd G' w v r.length (r.map (ndP S)))
    (hcv : ∀ i ∈ c, i < S.length) (hrv : ∀ i ∈ r, i < S.length) (hc0 : c ≠ []) (hn : c.length + r.length / 2 ≤ 1000000) (hrl : r.length ≤ 1000000) (hw : ∀ i, 0 ≤ wS S i ∧ wS S i ≤ 4611686018427387903) :
    Calls Try.prog 35 [u, v].toArray w (Ret fun x w' => ∃ T : List Nd, T.length = r.length / 2 ∧ T.map plN = pkL (wS S) r ∧ Wf (S ++ T) ∧
      Hp w w' [.own 61 1 x (c.length + r.length / 2) ((srt (ltW (S ++ T)) (nxtR S.length c (r.length / 2))).map (ndP (S ++ T))), .nd (S ++ T) T]) := by
  refine F_sound c35 (by simp [fc35]) ?_
  obtain ⟨hS, hSL⟩ := hr.sl
  have hM : maxLen = 9223372036854775807 := rfl
  simp [fc35, s35]
  have H : Hp w w [.own 61 1 (.slice none 0 0) 0 []] := (Hp.nil w).nilS
  refine app_h slTE 0 H rfl hc (by simp) (by intro y hy; simp only [List.mem_map] at hy; obtain ⟨i, _, rfl⟩ := hy; rfl) (by omega) (by omega) (by simp) (by simp) ?_
  intro v1 w1 H
  refine ⟨.inl rfl, ?_⟩
  simp
  refine for_r (r.length / 2) (NInv w u v S c r) ?_ ?_ ?_
  · refine ⟨by simp, by simp, by simp, [], rfl, rfl, by simpa using hW, v1, by simp, ?_⟩
    have := H.add (i := It.nd (S ++ []) []) (F := fun _ => False) (Mod.refl _ _) ⟨(fun n hn => by cases hn), fun k => ⟨fun h => h.elim, fun ⟨n, hn, _⟩ => by cases hn⟩⟩ (fun k hk => hk.elim)
    simpa [nxtR] using this
  · rintro k env w2 hk ⟨e0, e1, e6, T, hT, hp, hWT, ve, e5, H⟩
    have hk2 : 2 * k + 1 < r.length := by omega
    have w1' : IntKind.i64.wrap ((2 * k : Nat) + 1 : Int) = ((2 * k + 1 : Nat) : Int) := by rw [wI (by omega) (by omega)]; omega
    have w2' : IntKind.i64.wrap ((2 * k : Nat) + 2 : Int) = ((2 * (k + 1) : Nat) : Int) := by rw [wI (by omega) (by omega)]; omega
    generalize hq : 2 * k = q at *
    have ca := rd_nd (hr.at H.mod.drew) q (by omega)
    have cb := rd_nd (hr.at H.mod.drew) (q + 1) (by omega)
    obtain ⟨pv, _⟩ := hr.ptr (by simp; omega)
    have hLw := hL.same H.mod.drew
    have na := (hLw.cells (ndG_mem h0 (gn r q))).1
    have nb := (hLw.cells (ndG_mem h0 (gn r (q + 1)))).1
    have ba := hw (gn r q)
    have bb := hw (gn r (q + 1))
    unfold wS at ba bb
    have ws : IntKind.i64.wrap ((ndG S (gn r q)).wt + (ndG S (gn r (q + 1))).wt) = (ndG S (gn r q)).wt + (ndG S (gn r (q + 1))).wt := wI (by omega) (by omega)
    unfold ndP at ca cb
    simp [e0, e1, e6, hS, hSL, w1', -Int.natCast_add]
    refine ite_r (t := true) (by simp; omega) (fun _ => ?_) (fun h => by cases h)
    simp [wp_blk, wp_draw, e0, e1, e6, hS, hSL, w1', pv, ca, cb, na, nb, ws, hk2, show q < r.length by omega, -Int.natCast_add]
    have a1 := hrv _ (gn_mem (r := r) (i := q) (by omega))
    have b1 := hrv _ (gn_mem (r := r) (i := q + 1) (by omega))
    refine bs_h slTE [ndP S (gn r q), ndP S (gn r (q + 1))] H.drew rfl (by omega) (by simp [ndP]) (by simp; exact ⟨rfl, rfl⟩) ?_
    intro p w3 H M3
    refine ⟨.inr (by
      simp [promsOk, promOk, e0, e1, e6, w1', -Int.natCast_add]
      exact ⟨same_one nb (M3.cell nb (fun h => h)), same_one cb (M3.cell cb (fun h => h)), same_one na (M3.cell na (fun h => h)), same_one ca (M3.cell ca (fun h => h))⟩), ?_⟩
    obtain ⟨pg, cp, hpp⟩ : ∃ g cp, p = .slice (some ⟨g, 0, none⟩) 2 cp := by
      rcases (H.own 2 rfl).2 with ⟨_, h⟩ | ⟨g, cp, _, h, _⟩
      · omega
      · exact ⟨g, cp, h⟩
    simp [ws, putAt, Value.cells, hpp]
    rw [hpp] at H
    refine box_h (.agg #[.int .i64 ((ndG S (gn r q)).wt + (ndG S (gn r (q + 1))).wt), .int .i64 0, .slice (some ⟨pg, 0, none⟩) 2 cp]) H (by simp [ws, putAt, Value.cells]) ?_
    intro b w4 H M4
    refine ⟨.inl rfl, ?_⟩
    simp
    refine app1_h slTE 0 H rfl (u := .pointer (some ⟨b, 0, none⟩)) rfl (by omega) (by omega) (by simp) (by simp [e5]) (by simp) (fun _ _ => trivial) ?_
    intro vb v' w5 w6 H
    refine ⟨.inl rfl, ?_⟩
    simp [e6, w2', -Int.natCast_add]
    let n : Nd := ⟨b, (ndG S (gn r q)).wt + (ndG S (gn r (q + 1))).wt, 0, some (.slice (some ⟨pg, 0, none⟩) 2 cp, gn r q, gn r (q + 1))⟩
    have hWn : Wf (S ++ T ++ [n]) := hWT.snoc n (fun p' i j e => by
      simp only [n, Option.some.injEq, Prod.mk.injEq] at e
      obtain ⟨_, rfl, rfl⟩ := e
      simp only [List.length_append]
      omega)
    rw [List.append_assoc] at hWn
    refine ⟨by simp [e0], by simp [e1], by simp, T ++ [n], by simp [hT], ?_, hWn, v', by simp, ?_⟩
    · rw [List.map_append, hp, List.range_succ, List.map_append]
      simp [plN, pk1, n, wS, hq]
    · have H1 : Hp w w6 ([.own 61 1 v' (c.length + k + 1) ((nxtR S.length c k).map (ndP (S ++ T)) ++ [.pointer (some ⟨b, 0, none⟩)]), .nd (S ++ T) T] ++ [.own 61 1 (.slice (some ⟨pg, 0, none⟩) 2 cp) 2 [ndP S (gn r q), ndP S (gn r (q + 1))], .blk b (ndC n)]) := H
      have H2 := Hp.fuse _ (.nd (S ++ (T ++ [n])) [n]) H1 (fun F1 F2 h1 h2 => nd_pack (by rw [ndP_app a1, ndP_app b1]; exact h1) h2)
      have H3 : Hp w w6 ([.own 61 1 v' (c.length + k + 1) ((nxtR S.length c k).map (ndP (S ++ T)) ++ [.pointer (some ⟨b, 0, none⟩)])] ++ [.nd (S ++ T) T, .nd (S ++ (T ++ [n])) [n]]) := H2
      have H4 := Hp.fuse _ (.nd (S ++ (T ++ [n])) (T ++ [n])) H3 (fun F1 F2 h1 h2 => nd_join h1 h2 (fun hl => by
        rw [← List.append_assoc]
        exact hl.more (fun m hm => hWT.bound m (by simp [hm]))))
      have e1 : (nxtR S.length c k).map (ndP (S ++ T)) ++ [Value.pointer (some ⟨b, 0, none⟩)] = (nxtR S.length c (k + 1)).map (ndP (S ++ (T ++ [n]))) := by
        have hl : (S ++ T).length = S.length + k := by simp [hT]
        rw [nxtR_snoc, List.map_append, ← List.append_assoc, map_app (S := S ++ T) (T := [n]) (fun i hi => by rw [hl]; exact nxtR_bd hcv i hi), List.map_singleton, ← hl]
        unfold ndP
        rw [ndG_new]
      rw [e1] at H4
      exact H4
  · rintro env w2 ⟨e0, e1, e6, T, hT, hp, hWT, ve, e5, H⟩
    generalize hq : 2 * (r.length / 2) = q at e6
    have w1' : IntKind.i64.wrap ((q : Int) + 1) = ((q + 1 : Nat) : Int) := by rw [wI (by omega) (by omega)]; omega
    simp [e0, e1, e6, hS, hSL, w1', -Int.natCast_add]
    refine ite_r (t := false) (by simp; omega) (fun h => by cases h) (fun _ => ?_)
    simp
    have hlR : (nxtR S.length c (r.length / 2)).length = c.length + r.length / 2 := by simp [nxtR]
    have hT0 : S ++ T ≠ [] := by simp [h0]
    obtain ⟨F1, F2, p1, p2, hF, hd⟩ := H.apart
    have hLT : Lies w2 (S ++ T) (S ++ T) := lies_app.2 ⟨(hL.same H.mod).more (fun n hn => hW.bound n hn), p2.1⟩
    have own := p1.1
    rw [← hlR] at own
    refine call_h (order_c (S := S ++ T) (r := nxtR S.length c (r.length / 2)) (by simp [nxtR, hc0]) own (by omega) fun i => ?_) (by simp [e5]) ?_
    · have hm := ndG_mem hT0 i
      refine ⟨(hLT.cells hm).1, hLT.lt _ ⟨_, hm, .inl rfl⟩, fun e => ?_⟩
      rcases List.mem_append.1 hm with hm | hm
      · have h1 := hL.lt _ ⟨_, hm, .inl rfl⟩
        have h2 := hF _ (by rw [p1.2]; exact e)
        omega
      · exact hd _ (by rw [p1.2]; exact e) ((p2.2 _).2 ⟨_, hm, .inl rfl⟩)
    rintro x w3 ⟨rfl, ho, M⟩
    simp [e5]
    refine ⟨T, hT, hp, hWT, ?_⟩
    obtain ⟨F, ⟨_, rfl⟩, _, up⟩ := H.upd 0 rfl
    rw [hlR] at ho
    exact up (.own 61 1 ve (c.length + r.length / 2) ((srt (ltW (S ++ T)) (nxtR S.length c (r.length / 2))).map (ndP (S ++ T)))) w3 _ M ⟨ho, rfl⟩ (fun k hk => .inl hk)

end Go.Proofs.Ytgjnfajdejkkjaa.VG

/-! ## What an element counts: its symbols, one by one. -/
namespace Go.Proofs.Ytgjnfajdejkkjaa.VG
open Go
set_option linter.unusedSimpArgs false
set_option linter.unusedVariables false
set_option maxRecDepth 20000

def plG (P : List (Int × Int × Option (Nat × Nat))) (i : Nat) : Int × Int × Option (Nat × Nat) := (P[i]?).getD (P.headD (0, 0, none))
theorem plG_nd (S : List Nd) (i : Nat) : plG (S.map plN) i = plN (ndG S i) := by
  unfold plG ndG
  rw [List.getElem?_map]
  cases S with
  | nil => rfl
  | cons a r => cases (a :: r)[i]? <;> rfl
/-- The symbols of an element, by number. -/
def symsF : Nat → List (Int × Int × Option (Nat × Nat)) → Nat → List Nat
  | 0, _, _ => []
  | f + 1, P, i => match (plG P i).2.2 with
    | none => [(plG P i).2.1.toNat]
    | some (a, b) => symsF f P a ++ symsF f P b
def inc (L : List Int) (s : Nat) : List Int := L.set s (IntKind.i64.wrap (gi L s + 1))
def addS (L : List Int) (l : List Nat) : List Int := l.foldl inc L
theorem addS_length (l : List Nat) : ∀ L : List Int, (addS L l).length = L.length := by
  induction l with
  | nil => intro L; rfl
  | cons x r ih => intro L; show (addS (inc L x) r).length = _; rw [ih]; simp [inc]
theorem addS_app (L : List Int) (l m : List Nat) : addS L (l ++ m) = addS (addS L l) m := List.foldl_append ..

set_option maxHeartbeats 4000000 in
theorem count_c {S : List Nd} (hW : Wf S) : ∀ (f i : Nat), i < f → i < S.length → ∀ (w : World) (v : Value) (L : List Int), Lies w S S → w.ownsRow 0 3 1 v L.length (intsV L) → (∀ k, ndB S k → v.ownBlock ≠ some k) → (∀ n ∈ S, 0 ≤ n.sy ∧ n.sy < L.length) →
    Calls Try.prog 36 [ndP S i, v].toArray w (Ret fun x w' => x = .tuple #[] ∧ w'.ownsRow 0 3 1 v L.length (intsV (addS L (symsF f (S.map plN) i))) ∧ Mod (fun k => v.ownBlock = some k) w w')
  | 0, i, h, _ => by omega
  | f + 1, i, hf, hi => by
    intro w v L hL ho hd hsy
    refine F_sound c36 (by simp [fc36]) ?_
    have ei : S[i]? = some (ndG S i) := by rw [ndG, List.getElem?_eq_getElem hi]; rfl
    have hm : ndG S i ∈ S := List.mem_of_getElem? ei
    obtain ⟨c0, c1, c2⟩ := hL.cells hm
    obtain ⟨s0, s1⟩ := hsy _ hm
    have hpr := (hL _ hm).2
    have hwf := hW i _ ei
    have hpl := plG_nd S i
    have hrd := Rd.of_owns ho
    obtain ⟨hS, hSL⟩ := hrd.sl
    unfold symsF
    rw [hpl]
    simp only [show ∀ n : Nd, (plN n).2.2 = n.pr.map (fun p => p.2) from fun _ => rfl, show ∀ n : Nd, (plN n).2.1 = n.sy from fun _ => rfl]
    simp [fc36, s36, ndP, c2]
    rcases hp : (ndG S i).pr with _ | ⟨p, a, b⟩
    · have hV : ndV (ndG S i) = .slice none 0 0 := by unfold ndV; rw [hp]
      obtain ⟨s, es⟩ : ∃ s : Nat, (ndG S i).sy = s := ⟨(ndG S i).sy.toNat, by omega⟩
      rw [es] at c1
      have hs : s < L.length := by omega
      have hg := hrd.gi s hs
      have pv := hrd.some (by omega)
      have H := Hp.openG (i := .own 3 1 v L.length (intsV L)) ⟨ho, rfl⟩
      simp [hV]
      refine ite_r (t := true) (by simp) (fun _ => ?_) (fun h => by cases h)
      simp [c1, hS, hSL, pv, hg, hs]
      refine set_h (i := s) (u := .int .i64 (IntKind.i64.wrap (gi L s + 1))) 0 H rfl hs (by simp) (by simp) rfl ?_
      intro w2 H2
      refine ⟨.inl rfl, ?_⟩
      simp
      have e1 : (intsV L).set s (.int .i64 (IntKind.i64.wrap (gi L s + 1))) = intsV (inc L s) := by simp [inc, intsV, List.map_set]
      rw [e1] at H2
      obtain ⟨q1, q2, _⟩ := Hp.shutG (i := .own 3 1 v L.length (intsV (inc L s))) (F := fun k => v.ownBlock = some k) (R := []) (fun F' h => h.2) H2
      exact ⟨by rw [es]; exact q1.1, q2⟩
    · have hV : ndV (ndG S i) = p := by unfold ndV; rw [hp]
      obtain ⟨ha, hb⟩ := hwf p a b hp
      have hpo := hpr p a b hp
      have hprd := Rd.of_owns hpo
      obtain ⟨pS, pL⟩ := hprd.sl
      have pp := (hprd.ptr (by simp)).1
      simp [hV, pS, pL]
      refine ite_r (t := false) (by simp) (fun h => by cases h) (fun _ => ?_)
      simp [c2, hV, pS, pL]
      generalize hA : symsF f (S.map plN) a = A
      generalize hB : symsF f (S.map plN) b = B
      have IH := count_c hW f
      refine for_r 2 (fun k env' w' => env' 1 = v ∧ env' 24 = p ∧ env' 25 = .int .i64 2 ∧ env' 26 = .int .i64 k ∧ w'.ownsRow 0 3 1 v L.length (intsV (addS L (if k = 0 then [] else if k = 1 then A else A ++ B))) ∧ Mod (fun k => v.ownBlock = some k) w w') ?_ ?_ ?_
      · simp [addS, ho, Mod.refl]
      · rintro k env w1 hk ⟨e1, e24, e25, e26, o1, M1⟩
        have L1 := hL.st M1 (fun k hk h => hd k hk h)
        have w1' : IntKind.i64.wrap ((k : Int) + 1) = ((k + 1 : Nat) : Int) := by rw [wI (by omega) (by omega)]; omega
        have po : w1.ownsRow 0 61 1 p 2 [ndP S a, ndP S b] := M1.owns hpo (fun x hx h => hd x ⟨_, hm, .inr ⟨p, a, b, hp, hx⟩⟩ h)
        have pr1 := Rd.of_owns po
        have hl : (addS L (if k = 0 then [] else if k = 1 then A else A ++ B)).length = L.length := addS_length _ _
        simp [e25, e26, wp_blk]
        refine ite_r (t := true) (by simp; omega) (fun _ => ?_) (fun h => by cases h)
        simp [wp_blk, e24, e26, pS, pL, pp, hk]
        obtain rfl | rfl : k = 0 ∨ k = 1 := by omega
        · have cell := pr1.cell 0 _ rfl
          simp at cell
          simp [cell]
          refine call_h (IH a (by omega) (by omega) w1 v L L1 (by simpa [addS] using o1) hd hsy) (by simp [e1]) ?_
          rintro x w2 ⟨rfl, o2, M2⟩
          simp [e1, e24, e25, e26, w1']
          exact ⟨by decide, by rw [← hA]; exact o2, M1.tr M2⟩
        · have cell := pr1.cell 1 _ rfl
          simp [cell]
          simp at o1
          have IHb := IH b (by omega) (by omega) w1 v (addS L A) L1 (by rw [addS_length]; exact o1) hd (by rw [addS_length]; exact hsy)
          refine call_h IHb (by simp [e1]) ?_
          rintro x w2 ⟨rfl, o2, M2⟩
          simp [e1, e24, e25, e26, w1']
          rw [addS_length, hB, ← addS_app] at o2
          exact ⟨by decide, o2, M1.tr M2⟩
      · rintro env w1 ⟨e1, e24, e25, e26, o1, M1⟩
        simp [e25, e26]
        refine ite_r (t := false) (by simp) (fun h => by cases h) (fun _ => ?_)
        simp
        simp at o1
        exact ⟨o1, M1⟩

end Go.Proofs.Ytgjnfajdejkkjaa.VG
