/-
  Frames: a call that carries on an old reader works in a separation context of its own: the reader, all that is old beside it, what is made.
-/
import Derived.Test.YtajkofndbeohpaaHo
namespace Go.Proofs.Ytajkofndbeohpaa.VG
open Go
set_option linter.unusedSimpArgs false
set_option linter.unusedVariables false

/-- A world with no heap, else as w. -/
def bare (w : World) : World := { w with heap := #[] }
/-- All blocks of w0 but F0's are as they were. -/
def It.old (w0 : World) (F0 : Nat → Prop) : It where
  P w F := (F = fun k => k < w0.heap.size ∧ ¬ F0 k) ∧ w0.heap.size ≤ w.heap.size ∧ ∀ k, k < w0.heap.size → ¬ F0 k → w.heap[k]? = w0.heap[k]?
  st := fun ⟨hF, hs, hb⟩ m d => ⟨hF, Nat.le_trans hs m.size, fun k hk hn => by rw [m.block k (Nat.lt_of_lt_of_le hk hs) (d k (by rw [hF]; exact ⟨hk, hn⟩))]; exact hb k hk hn⟩
  lt := fun ⟨hF, hs, hb⟩ k hk => by rw [hF] at hk; exact Nat.lt_of_lt_of_le hk.1 hs
/-- A reader in blocks that are told. -/
def It.rq (F0 : Nat → Prop) (b : Nat) (l : List Nat) (p : Nat) (e : Int) : It where
  P w F := Rr w F0 b l p e ∧ F = F0
  st := fun ⟨h, hF⟩ m d => ⟨h.mod m (by rw [← hF]; exact d), hF⟩
  lt := fun ⟨h, hF⟩ k hk => h.lt k (by rw [← hF]; exact hk)

theorem bare_mod (w : World) : Mod none' (bare w) w := ⟨rfl, rfl, rfl, Nat.zero_le _, fun k hk => absurd hk (Nat.not_lt_zero k)⟩

theorem Hp.openR {w : World} {F : Nat → Prop} {b : Nat} {l : List Nat} {p : Nat} {e : Int} (h : Rr w F b l p e) : Hp (bare w) w [.rq F b l p e, .old w F] :=
  ⟨bare_mod w, [F, fun k => k < w.heap.size ∧ ¬ F k], ⟨h, rfl⟩, fun _ _ => Nat.zero_le _, by intro G hG k hk; simp only [List.mem_singleton] at hG; subst hG; exact fun h => h.2 hk,
    ⟨rfl, Nat.le_refl _, fun _ _ _ => rfl⟩, fun _ _ => Nat.zero_le _, (fun _ h => by cases h), trivial⟩
theorem Hp.rqUp {W w : World} {l : List It} (h : Hp W w l) (j : Nat) {F : Nat → Prop} {b : Nat} {bs : List Nat} {p : Nat} {e : Int} (hj : l[j]? = some (.rq F b bs p e)) :
    Rr w F b bs p e ∧ ∀ p' e' w', RrAfter w F b bs p' e' w' → Hp W w' (l.set j (.rq F b bs p' e')) := by
  obtain ⟨F', ⟨h1, rfl⟩, _, h4⟩ := h.upd j hj
  exact ⟨h1, fun p' e' w' ⟨q1, q2⟩ => h4 (.rq F' b bs p' e') w' F' (q2.mono fun k _ hk => hk ▸ h1.me) ⟨q1, rfl⟩ (fun k hk => .inl hk)⟩

/-- The reader went on; all else that is old is as it was. -/
def RrF (w : World) (F : Nat → Prop) (b : Nat) (l : List Nat) (p : Nat) (e : Int) (w' : World) : Prop := Rr w' F b l p e ∧ Mod F w w'
theorem RrAfter.toF {w w' : World} {F : Nat → Prop} {b : Nat} {l : List Nat} {p : Nat} {e : Int} (h : RrAfter w F b l p e w') (hb : F b) : RrF w F b l p e w' := ⟨h.1, h.2.mono fun k _ hk => hk ▸ hb⟩

/-- What is made lies above all that is old. -/
theorem Hp.shutR {w w' : World} {F : Nat → Prop} {b : Nat} {l : List Nat} {p : Nat} {e : Int} {R : List It} (h : Hp (bare w) w' (.rq F b l p e :: .old w F :: R)) :
    RrF w F b l p e w' ∧ ∃ Gs, Sep w.heap.size w' R Gs := by
  obtain ⟨Fs, hs⟩ := h.sep
  rcases Fs with _ | ⟨F1, _ | ⟨F2, Gs⟩⟩
  · exact hs.elim
  · exact hs.2.2.2.elim
  obtain ⟨⟨h1, e1⟩, _, h3, ⟨e2, h5, h6⟩, _, h8, h9⟩ := hs
  subst e1 e2
  refine ⟨⟨h1, h.mod.os, h.mod.tape, h.mod.output, h5, fun k hk hn => h6 k hk hn⟩, Gs, ?_⟩
  have hlow : ∀ G ∈ Gs, ∀ k, G k → w.heap.size ≤ k := by
    intro G hG k hk
    rcases Nat.lt_or_ge k w.heap.size with hlt | hge
    · exfalso
      by_cases hFk : F1 k
      · exact h3 G (List.mem_cons_of_mem _ hG) k hFk hk
      · exact h8 G hG k ⟨hlt, hFk⟩ hk
    · exact hge
  clear h8 h3 h
  have lift : ∀ (R : List It) (Gs : List (Nat → Prop)), Sep (bare w).heap.size w' R Gs → (∀ G ∈ Gs, ∀ k, G k → w.heap.size ≤ k) → Sep w.heap.size w' R Gs := by
    intro R
    induction R with
    | nil => intro Gs h _; cases Gs <;> exact h
    | cons i r ih =>
      intro Gs h hl
      cases Gs with
      | nil => exact h.elim
      | cons G Gs => exact ⟨h.1, hl G (List.mem_cons_self ..), h.2.2.1, ih Gs h.2.2.2 (fun G' hG' => hl G' (List.mem_cons_of_mem _ hG'))⟩
  exact lift R Gs h9 hlow

/-- A call's reader and what it made, back in the context of the caller. -/
theorem Hp.backR {W w w' : World} {l R : List It} (h : Hp W w l) (j : Nat) {b : Nat} {bs : List Nat} {p p' : Nat} {e e' : Int} {F : Nat → Prop} (hj : l[j]? = some (.rr b bs p e))
    (hF : ∃ Fs, Sep W.heap.size w l Fs ∧ Fs[j]? = some F) (hr : RrF w F b bs p' e' w') (hs : ∃ Gs, Sep w.heap.size w' R Gs) : Hp W w' (l.set j (.rr b bs p' e') ++ R) := by
  obtain ⟨Fs, q1, q2⟩ := hF
  obtain ⟨Gs, hs⟩ := hs
  obtain ⟨F', h1, h2, h3, h4⟩ := q1.upd hj
  obtain rfl : F = F' := by rw [q2] at h3; exact Option.some.inj h3
  have hs' := h4 (.rr b bs p' e') w' F hr.2 hr.1 h2 (fun k hk => .inl hk)
  refine ⟨h.mod.trans hr.2 (fun k hk hF => by have := h2 k hF; omega), _, hs'.app h.mod.size hs ?_⟩
  intro K hK G hG k hk hk'
  have h5 := (hs.lt G hG k hk').2
  rcases List.mem_or_eq_of_mem_set hK with hK | rfl
  · have := (q1.lt K hK k hk).1; omega
  · have := (q1.lt K (List.mem_of_getElem? h3) k hk).1; omega
theorem Hp.rrF {W w : World} {l : List It} (h : Hp W w l) (j : Nat) {b : Nat} {bs : List Nat} {p : Nat} {e : Int} (hj : l[j]? = some (.rr b bs p e)) :
    ∃ F, Rr w F b bs p e ∧ (∀ p' e' w', RrAfter w F b bs p' e' w' → Hp W w' (l.set j (.rr b bs p' e'))) ∧ ∀ p' e' w' R, RrF w F b bs p' e' w' → (∃ Gs, Sep w.heap.size w' R Gs) → Hp W w' (l.set j (.rr b bs p' e') ++ R) := by
  obtain ⟨Fs, hs⟩ := h.sep
  obtain ⟨F, h1, h2, h3, h4⟩ := hs.upd hj
  have back : ∀ p' e' w' R, RrF w F b bs p' e' w' → (∃ Gs, Sep w.heap.size w' R Gs) → Hp W w' (l.set j (.rr b bs p' e') ++ R) := fun p' e' w' R hr hg => h.backR j hj ⟨Fs, hs, h3⟩ hr hg
  exact ⟨F, h1, fun p' e' w' hr => by have := back p' e' w' [] (hr.toF h1.me) ⟨[], trivial⟩; rwa [List.append_nil] at this, back⟩
theorem Hp.rqF {W w : World} {l : List It} (h : Hp W w l) (j : Nat) {F : Nat → Prop} {b : Nat} {bs : List Nat} {p : Nat} {e : Int} (hj : l[j]? = some (.rq F b bs p e)) :
    Rr w F b bs p e ∧ ∀ p' e' w' R, RrF w F b bs p' e' w' → (∃ Gs, Sep w.heap.size w' R Gs) → Hp W w' (l.set j (.rq F b bs p' e') ++ R) := by
  obtain ⟨Fs, hs⟩ := h.sep
  obtain ⟨F', ⟨h1, rfl⟩, h2, h3, h4⟩ := hs.upd hj
  refine ⟨h1, fun p' e' w' R hr ⟨Gs, hg⟩ => ?_⟩
  have hs' := h4 (.rq F' b bs p' e') w' F' hr.2 ⟨hr.1, rfl⟩ h2 (fun k hk => .inl hk)
  refine ⟨h.mod.trans hr.2 (fun k hk hF => by have := h2 k hF; omega), _, hs'.app h.mod.size hg ?_⟩
  intro K hK G hG k hk hk'
  have h5 := (hg.lt G hG k hk').2
  rcases List.mem_or_eq_of_mem_set hK with hK | rfl
  · have := (hs.lt K hK k hk).1; omega
  · have := (hs.lt K (List.mem_of_getElem? h3) k hk).1; omega
/-- A row made alone. -/
theorem sep_own {N : Nat} {w : World} {e : TypeId} {size n : Nat} {v : Value} {xs : List Value} (ho : w.ownsRow 0 e size v n xs) (hN : ∀ k, v.ownBlock = some k → N ≤ k) : ∃ Gs, Sep N w [.own e size v n xs] Gs :=
  ⟨[fun k => v.ownBlock = some k], ⟨ho, rfl⟩, hN, (fun _ h => by cases h), trivial⟩

/-- The document's reader, over bytes that are old. -/
def It.yq (v : Value) (l : List Nat) (b p : Nat) (e : Int) : It where
  P w F := (∃ el, w.heap[b]? = some (.cells #[v, .int .i64 p, .int .i64 e] el (0, 0))) ∧ p ≤ 8 * l.length ∧ F = fun k => k = b
  st := fun ⟨⟨el, h⟩, hp, hF⟩ m d => ⟨⟨el, m.heap h (d b (by rw [hF]))⟩, hp, hF⟩
  lt := fun ⟨⟨el, h⟩, _, hF⟩ k hk => by rw [hF] at hk; rw [hk]; exact heap_lt h
theorem Hp.openY {w : World} {G : Nat → Prop} {b : Nat} {v : Value} {l : List Nat} {p : Nat} {e : Int} (h : Yr w G b v l p e) : Hp (bare w) w [.yq v l b p e, .old w (fun k => k = b)] :=
  ⟨bare_mod w, [fun k => k = b, fun k => k < w.heap.size ∧ ¬ k = b], ⟨h.is, h.le, rfl⟩, fun _ _ => Nat.zero_le _, by intro G hG k hk; simp only [List.mem_singleton] at hG; subst hG; exact fun h => h.2 hk,
    ⟨rfl, Nat.le_refl _, fun _ _ _ => rfl⟩, fun _ _ => Nat.zero_le _, (fun _ h => by cases h), trivial⟩
theorem Hp.shutY {w w' : World} {G : Nat → Prop} {b : Nat} {v : Value} {l : List Nat} {p p0 : Nat} {e e0 : Int} {R : List It} (h0 : Yr w G b v l p0 e0) (h : Hp (bare w) w' (.yq v l b p e :: .old w (fun k => k = b) :: R)) :
    YrAfter w G b v l p e w' ∧ ∃ Gs, Sep w.heap.size w' R Gs := by
  obtain ⟨Fs, hs⟩ := h.sep
  rcases Fs with _ | ⟨F1, _ | ⟨F2, Gs⟩⟩
  · exact hs.elim
  · exact hs.2.2.2.elim
  obtain ⟨⟨h1, hp, e1⟩, _, h3, ⟨e2, h5, h6⟩, _, h8, h9⟩ := hs
  subst e1 e2
  have hm : Mod (fun k => k = b) w w' := ⟨h.mod.os, h.mod.tape, h.mod.output, h5, fun k hk hn => h6 k hk hn⟩
  refine ⟨⟨⟨by have := h0.lt; omega, h0.off, h0.fits, hp, h0.small, h0.rd.mod hm (fun k hk e => h0.off (e ▸ hk)), h1⟩, hm⟩, Gs, ?_⟩
  have hlow : ∀ G ∈ Gs, ∀ k, G k → w.heap.size ≤ k := by
    intro G hG k hk
    rcases Nat.lt_or_ge k w.heap.size with hlt | hge
    · exfalso
      by_cases hFk : k = b
      · exact h3 G (List.mem_cons_of_mem _ hG) k hFk hk
      · exact h8 G hG k ⟨hlt, hFk⟩ hk
    · exact hge
  have lift : ∀ (R : List It) (Gs : List (Nat → Prop)), Sep (bare w).heap.size w' R Gs → (∀ G ∈ Gs, ∀ k, G k → w.heap.size ≤ k) → Sep w.heap.size w' R Gs := by
    intro R
    induction R with
    | nil => intro Gs h _; cases Gs <;> exact h
    | cons i r ih =>
      intro Gs h hl
      cases Gs with
      | nil => exact h.elim
      | cons G Gs => exact ⟨h.1, hl G (List.mem_cons_self ..), h.2.2.1, ih Gs h.2.2.2 (fun G' hG' => hl G' (List.mem_cons_of_mem _ hG'))⟩
  exact lift R Gs h9 hlow
theorem Hp.yqUp {w w' : World} {G : Nat → Prop} {b : Nat} {v : Value} {l : List Nat} {p p0 : Nat} {e e0 : Int} {R : List It} (h0 : Yr w G b v l p0 e0) (h : Hp (bare w) w' (.yq v l b p e :: .old w (fun k => k = b) :: R)) :
    Yr w' G b v l p e ∧ w.heap.size ≤ w'.heap.size ∧ (∀ p' e' w'', YrAfter w' G b v l p' e' w'' → Hp (bare w) w'' (.yq v l b p' e' :: .old w (fun k => k = b) :: R)) ∧
      ∀ p' e' w'' R', YrAfter w' G b v l p' e' w'' → (∃ Gs, Sep w'.heap.size w'' R' Gs) → Hp (bare w) w'' (.yq v l b p' e' :: .old w (fun k => k = b) :: (R ++ R')) := by
  have hy := (h.shutY h0).1
  have back : ∀ p' e' w'' R', YrAfter w' G b v l p' e' w'' → (∃ Gs, Sep w'.heap.size w'' R' Gs) → Hp (bare w) w'' (.yq v l b p' e' :: .old w (fun k => k = b) :: (R ++ R')) := by
    intro p' e' w'' R' hr ⟨Gs, hg⟩
    obtain ⟨Fs, hs⟩ := h.sep
    obtain ⟨F', ⟨h1, h1p, rfl⟩, h2, h3, h4⟩ := hs.upd (j := 0) rfl
    have hs' := h4 (.yq v l b p' e') w'' (fun k => k = b) hr.2 ⟨hr.1.is, hr.1.le, rfl⟩ h2 (fun k hk => .inl hk)
    refine ⟨h.mod.trans hr.2 (fun k hk hF => by have := h2 k hF; omega), _, hs'.app h.mod.size hg ?_⟩
    intro K hK G hG k hk hk'
    have h5 := (hg.lt G hG k hk').2
    rcases List.mem_or_eq_of_mem_set hK with hK | rfl
    · have := (hs.lt K hK k hk).1; omega
    · have := (hs.lt _ (List.mem_of_getElem? h3) k hk).1; omega
  exact ⟨hy.1, hy.2.size, fun p' e' w'' hr => by have := back p' e' w'' [] hr ⟨[], trivial⟩; rwa [List.append_nil] at this, back⟩

end Go.Proofs.Ytajkofndbeohpaa.VG
