/-
  VG, part Ho: writers and readers among the things owned.
-/
import Derived.Test.YtgjnfajdejkkjaaHq
import Derived.Test.YtgjnfajdejkkjaaBl
namespace Go.Proofs.Ytgjnfajdejkkjaa.VG
open Go
set_option linter.unusedSimpArgs false
set_option linter.unusedVariables false
set_option maxRecDepth 20000

def It.wr (b : Nat) (bs : List Bool) : It := ⟨fun w F => Wr w F b bs, fun h m d => h.mod m d, fun h => h.lt⟩
def It.xr (b : Nat) (bs : List Bool) : It := ⟨fun w F => Xr w F b bs, fun h m d => h.mod m d, fun h => h.lt⟩
def It.rr (b : Nat) (l : List Nat) (p : Nat) (e : Int) : It := ⟨fun w F => Rr w F b l p e, fun h m d => h.mod m d, fun h => h.lt⟩

theorem Sep.dis {B : Nat} {w : World} : ∀ {l : List It} {Fs : List (Nat → Prop)} {i j : Nat} {a c : It}, Sep B w l Fs → i ≠ j → l[i]? = some a → l[j]? = some c → ∀ {F G : Nat → Prop}, Fs[i]? = some F → Fs[j]? = some G → ∀ k, F k → ¬ G k
  | x :: r, K :: Ks, 0, 0, _, _, _, hne, _, _, _, _, _, _, _, _ => absurd rfl hne
  | x :: r, K :: Ks, 0, j + 1, a, c, h, _, hi, hj, F, G, hF, hG, k, hk => by
    simp only [List.getElem?_cons_zero, Option.some.injEq] at hF
    subst hF
    exact h.2.2.1 G (List.mem_of_getElem? (by simpa using hG)) k hk
  | x :: r, K :: Ks, i + 1, 0, a, c, h, _, hi, hj, F, G, hF, hG, k, hk => by
    simp only [List.getElem?_cons_zero, Option.some.injEq] at hG
    subst hG
    intro hk'
    exact h.2.2.1 F (List.mem_of_getElem? (by simpa using hF)) k hk' hk
  | x :: r, K :: Ks, i + 1, j + 1, a, c, h, hne, hi, hj, F, G, hF, hG, k, hk =>
    Sep.dis (i := i) (j := j) h.2.2.2 (by omega) (by simpa using hi) (by simpa using hj) (by simpa using hF) (by simpa using hG) k hk
  | [], [], _, _, _, _, _, _, hi, _, _, _, _, _, _, _ => by simp at hi
  | [], _ :: _, _, _, _, _, h, _, _, _, _, _, _, _, _, _ => h.elim
  | _ :: _, [], _, _, _, _, h, _, _, _, _, _, _, _, _, _ => h.elim

/-- A writer: what it holds, how it goes on; what is read meanwhile lies elsewhere. -/
theorem Hp.wr {W w : World} {l : List It} (h : Hp W w l) (j : Nat) {b : Nat} {bs : List Bool} (hj : l[j]? = some (.wr b bs)) : ∃ F, Wr w F b bs ∧ (∀ k, F k → ¬ k < W.heap.size) ∧ (∀ cs w', WrAfter w F b cs w' → Hp W w' (l.set j (.wr b cs))) ∧
    ∀ i e size v n xs, i ≠ j → l[i]? = some (.own e size v n xs) → ∃ G, Rd G w v n xs ∧ ∀ k, F k → ¬ G k := by
  obtain ⟨Fs, hs⟩ := h.sep
  obtain ⟨F, h1, h2, h3, h4⟩ := hs.upd hj
  refine ⟨F, h1, fun k hk => by have := h2 k hk; omega, fun cs w' ⟨F', q1, q2, q3⟩ => ⟨h.mod.trans q2 (fun k hk hF => by have := h2 k hF; omega), Fs.set j F', h4 (.wr b cs) w' F' q2 q1 (fun k hk => ?_) q3⟩, fun i e size v n xs hij hi => ?_⟩
  · rcases q3 k hk with h5 | h5
    · exact h2 k h5
    · exact Nat.le_trans h.mod.size h5
  · obtain ⟨G, g1, g2, g3, _⟩ := hs.upd hi
    obtain ⟨ho, rfl⟩ := g1
    exact ⟨_, (Rd.of_owns ho).mono (G := fun k => v.ownBlock = some k) fun k hk => hk.1, hs.dis (fun e => hij e.symm) hj hi h3 g3⟩
theorem Hp.xr {W w : World} {l : List It} (h : Hp W w l) (j : Nat) {b : Nat} {bs : List Bool} (hj : l[j]? = some (.xr b bs)) : ∃ F, Xr w F b bs ∧ (∀ k, F k → ¬ k < W.heap.size) ∧ (∀ cs w', XrAfter w F b cs w' → Hp W w' (l.set j (.xr b cs))) ∧
    ∀ i e size v n xs, i ≠ j → l[i]? = some (.own e size v n xs) → ∃ G, Rd G w v n xs ∧ ∀ k, F k → ¬ G k := by
  obtain ⟨Fs, hs⟩ := h.sep
  obtain ⟨F, h1, h2, h3, h4⟩ := hs.upd hj
  refine ⟨F, h1, fun k hk => by have := h2 k hk; omega, fun cs w' ⟨F', q1, q2, q3⟩ => ⟨h.mod.trans q2 (fun k hk hF => by have := h2 k hF; omega), Fs.set j F', h4 (.xr b cs) w' F' q2 q1 (fun k hk => ?_) q3⟩, fun i e size v n xs hij hi => ?_⟩
  · rcases q3 k hk with h5 | h5
    · exact h2 k h5
    · exact Nat.le_trans h.mod.size h5
  · obtain ⟨G, g1, g2, g3, _⟩ := hs.upd hi
    obtain ⟨ho, rfl⟩ := g1
    exact ⟨_, (Rd.of_owns ho).mono (G := fun k => v.ownBlock = some k) fun k hk => hk.1, hs.dis (fun e => hij e.symm) hj hi h3 g3⟩
theorem Hp.rr {W w : World} {l : List It} (h : Hp W w l) (j : Nat) {b : Nat} {bs : List Nat} {p : Nat} {e : Int} (hj : l[j]? = some (.rr b bs p e)) : ∃ F, Rr w F b bs p e ∧ (∀ k, F k → ¬ k < W.heap.size) ∧ (∀ p' e' w', RrAfter w F b bs p' e' w' → Hp W w' (l.set j (.rr b bs p' e'))) := by
  obtain ⟨F, h1, h2, h4⟩ := h.upd j hj
  exact ⟨F, h1, fun k hk => by have := h2 k hk; omega, fun p' e' w' ⟨q1, q2⟩ => h4 (.rr b bs p' e') w' F (q2.mono fun k _ hk => hk ▸ h1.me) q1 (fun k hk => .inl hk)⟩
/-- The document's reader, over an argument's bytes. -/
theorem Hp.yr {W w : World} {l : List It} (h : Hp W w l) (j : Nat) {b : Nat} {v : Value} {bs : List Nat} {p : Nat} {e : Int} (hj : l[j]? = some (.blk b #[v, .int .i64 p, .int .i64 e])) (hr : Rd (fun k => k < W.heap.size) W v bs.length (bytesV bs)) (hf : ∀ x ∈ bs, x < 256) (hle : p ≤ 8 * bs.length) (hsm : bs.length ≤ 17592186044416) :
    Yr w (fun k => k < W.heap.size) b v bs p e ∧ ∀ p' e' w', YrAfter w (fun k => k < W.heap.size) b v bs p' e' w' → Hp W w' (l.set j (.blk b #[v, .int .i64 p', .int .i64 e'])) := by
  obtain ⟨F, ⟨⟨el, h1⟩, rfl⟩, h2, h4⟩ := h.upd j hj
  have hb := h2 b rfl
  refine ⟨⟨heap_lt h1, by omega, hf, hle, hsm, hr.at h.mod, el, h1⟩, fun p' e' w' ⟨q1, q2⟩ => ?_⟩
  obtain ⟨el', h5⟩ := q1.is
  exact h4 _ w' (fun k => k = b) q2 ⟨⟨el', h5⟩, rfl⟩ (fun k hk => .inl hk)
theorem Hp.newWr {W w w' : World} {l : List It} (h : Hp W w l) {b : Nat} {el : TypeId} (hb : b = w.heap.size) (hh : w'.heap[b]? = some (.cells #[.slice none 0 0, .int .i64 0] el (0, 0))) (m : Mod none' w w') : Hp W w' (l ++ [.wr b []]) :=
  h.add (F := fun k => k = b) m (VG.newWr hh) (fun k hk => by omega)
theorem Hp.newXr {W w w' : World} {l : List It} (h : Hp W w l) {b : Nat} {el : TypeId} (hb : b = w.heap.size) (hh : w'.heap[b]? = some (.cells #[.slice none 0 0] el (0, 0))) (m : Mod none' w w') : Hp W w' (l ++ [.xr b []]) :=
  h.add (F := fun k => k = b) m (VG.newXr hh) (fun k hk => by omega)
theorem Hp.newBytes {W w w' : World} {l : List It} (h : Hp W w l) {v : Value} {bs : List Nat} (hf : Fresh w w' v bs) : Hp W w' (l ++ [.own 5 1 v bs.length (bytesV bs)]) :=
  h.add (F := fun k => v.ownBlock = some k) hf.2 ⟨ownsRow_zero hf.1, rfl⟩ (fun k hk => (hf.1.lt k hk).1)
theorem Hp.newRr {W w w' : World} {l : List It} (h : Hp W w l) {b : Nat} {G : Nat → Prop} {bs : List Nat} (hr : Rr w' G b bs 0 0) (m : Mod none' w w') (hG : ∀ k, G k → w.heap.size ≤ k) : Hp W w' (l ++ [.rr b bs 0 0]) :=
  h.add (F := G) m hr hG

section
variable {P : Program} {Q : Exit → Env → World → Prop} {env : Env} {W w : World} {l : List It} {k : S}
/-- An empty writer, the program's or the document's. -/
theorem wrbox_h {x : Option Nat} {T : TypeId} {o : Operand} {ty : TypeId} {m : List (Nat × E)} {pr : List PrE} (h : Hp W w l) (hv : rhoOf m env w o = .agg #[.slice none 0 0, .int .i64 0])
    (hk : ∀ b w', Hp W w' (l ++ [.wr b []]) → Mod none' w w' → (pr = [] ∨ promsOk pr env w w') ∧ k.wp P Q (updo env x (.pointer (some ⟨b, 0, none⟩))) w') :
    (S.op x (.box T o) ty m pr k).wp P Q env w := by
  refine box_r _ hv ?_
  intro b w' hb hh hm _
  obtain ⟨q1, q2⟩ := hk b w' (h.newWr hb hh hm) hm
  refine ⟨?_, q2⟩
  rcases q1 with rfl | q1
  · trivial
  · exact q1
theorem xrbox_h {x : Option Nat} {T : TypeId} {o : Operand} {ty : TypeId} {m : List (Nat × E)} {pr : List PrE} (h : Hp W w l) (hv : rhoOf m env w o = .agg #[.slice none 0 0])
    (hk : ∀ b w', Hp W w' (l ++ [.xr b []]) → Mod none' w w' → (pr = [] ∨ promsOk pr env w w') ∧ k.wp P Q (updo env x (.pointer (some ⟨b, 0, none⟩))) w') :
    (S.op x (.box T o) ty m pr k).wp P Q env w := by
  refine box_r _ hv ?_
  intro b w' hb hh hm _
  obtain ⟨q1, q2⟩ := hk b w' (h.newXr hb hh hm) hm
  refine ⟨?_, q2⟩
  rcases q1 with rfl | q1
  · trivial
  · exact q1
end

/-- A row of one's own that a call made, and an error. -/
def RowNew (w w' : World) (r : Value) (s : List Int × Int) : Prop := ∃ u, r = .tuple #[u, .int .i64 s.2] ∧ w'.ownsRow 0 3 1 u s.1.length (intsV s.1) ∧ ∀ k, u.ownBlock = some k → w.heap.size ≤ k
theorem RowNew.bad {w w' : World} {e : Int} : RowNew w w' (.tuple #[.slice none 0 0, .int .i64 e]) ([], e) :=
  ⟨_, rfl, World.ownsRow_nil _ _ _ _, fun k hk => by simp [Value.ownBlock] at hk⟩
/-- A reader goes on, and a row is made beside it. -/
theorem Hp.rrRow {W w : World} {l : List It} (h : Hp W w l) (j : Nat) {b : Nat} {bs : List Nat} {p : Nat} {e : Int} (hj : l[j]? = some (.rr b bs p e)) : ∃ F, Rr w F b bs p e ∧ ∀ p' e' w' u n xs, RrAfter w F b bs p' e' w' → w'.ownsRow 0 3 1 u n xs → (∀ k, u.ownBlock = some k → w.heap.size ≤ k) →
    Hp W w' (l.set j (.rr b bs p' e') ++ [.own 3 1 u n xs]) := by
  obtain ⟨Fs, hs⟩ := h.sep
  obtain ⟨F, h1, h2, h3, h4⟩ := hs.upd hj
  refine ⟨F, h1, fun p' e' w' u n xs ⟨q1, q2⟩ ho hu => ?_⟩
  have hm : Mod F w w' := q2.mono fun k _ hk => hk ▸ h1.me
  have hs' := h4 (.rr b bs p' e') w' F hm q1 h2 (fun k hk => .inl hk)
  refine ⟨h.mod.trans hm (fun k hk hF => by have := h2 k hF; omega), _, hs'.app h.mod.size (B' := w.heap.size) (l' := [.own 3 1 u n xs]) (Gs := [fun k => u.ownBlock = some k]) ⟨⟨ho, rfl⟩, hu, (fun _ hG => by cases hG), trivial⟩ ?_⟩
  intro K hK G hG k hk hk'
  simp only [List.mem_singleton] at hG
  subst hG
  have h5 := hu k hk'
  rcases List.mem_or_eq_of_mem_set hK with hK | rfl
  · have := (hs.lt K hK k hk).1; omega
  · have := (hs.lt K (List.mem_of_getElem? h3) k hk).1; omega
theorem Hp.yrRow {W w : World} {l : List It} (h : Hp W w l) (j : Nat) {b : Nat} {v : Value} {bs : List Nat} {p : Nat} {e : Int} (hj : l[j]? = some (.blk b #[v, .int .i64 p, .int .i64 e])) : ∀ p' e' w' u n xs, YrAfter w (fun k => k < W.heap.size) b v bs p' e' w' → w'.ownsRow 0 3 1 u n xs → (∀ k, u.ownBlock = some k → w.heap.size ≤ k) →
    Hp W w' (l.set j (.blk b #[v, .int .i64 p', .int .i64 e']) ++ [.own 3 1 u n xs]) := by
  obtain ⟨Fs, hs⟩ := h.sep
  obtain ⟨F, ⟨⟨el, h1⟩, rfl⟩, h2, h3, h4⟩ := hs.upd hj
  intro p' e' w' u n xs ⟨q1, q2⟩ ho hu
  obtain ⟨el', h5⟩ := q1.is
  have hs' := h4 (.blk b #[v, .int .i64 p', .int .i64 e']) w' (fun k => k = b) q2 ⟨⟨el', h5⟩, rfl⟩ h2 (fun k hk => .inl hk)
  refine ⟨h.mod.trans q2 (fun k hk hF => by have := h2 k hF; omega), _, hs'.app h.mod.size (B' := w.heap.size) (l' := [.own 3 1 u n xs]) (Gs := [fun k => u.ownBlock = some k]) ⟨⟨ho, rfl⟩, hu, (fun _ hG => by cases hG), trivial⟩ ?_⟩
  intro K hK G hG k hk hk'
  simp only [List.mem_singleton] at hG
  subst hG
  have h5 := hu k hk'
  rcases List.mem_or_eq_of_mem_set hK with hK | rfl
  · have := (hs.lt K hK k hk).1; omega
  · have := (hs.lt _ (List.mem_of_getElem? h3) k hk).1; omega

end Go.Proofs.Ytgjnfajdejkkjaa.VG
