/-
  A stable sort by merging, in plain lists.
-/
import Derived.Test.YtgjnfajdejkkjaaQa
namespace Go.Proofs.Ytgjnfajdejkkjaa.VG
open Go
set_option linter.unusedSimpArgs false
set_option linter.unusedVariables false
set_option maxRecDepth 20000

def gnn (r : List Nat) (i : Nat) : Nat := r.getD i 0
theorem gnn_lt {r : List Nat} {i : Nat} (h : i < r.length) : r[i]? = some (gnn r i) := by
  unfold gnn
  rw [List.getD_eq_getElem?_getD, List.getElem?_eq_getElem h]; rfl
theorem gnn_get {r : List Nat} {i : Nat} (h : i < r.length) : r[i] = gnn r i := by simp [gnn, h]
theorem gnn_mem {r : List Nat} {i : Nat} (h : i < r.length) : gnn r i ∈ r := List.mem_of_getElem? (gnn_lt h)
theorem gnn_take {r : List Nat} {i : Nat} (h : i < r.length) : r.take (i + 1) = r.take i ++ [gnn r i] := by rw [List.take_add_one, gnn_lt h]; rfl

/-- Two rows as one, of like weight the first row's ahead. -/
def mrg (f : Nat → Int) : List Nat → List Nat → List Nat
  | [], Y => Y
  | x :: X, [] => x :: X
  | x :: X, y :: Y => if f y < f x then y :: mrg f (x :: X) Y else x :: mrg f X (y :: Y)
  termination_by X Y => X.length + Y.length

theorem mrg_nil (f : Nat → Int) (X : List Nat) : mrg f X [] = X := by cases X <;> simp [mrg]
theorem mrg_nil' (f : Nat → Int) (X : List Nat) : mrg f [] X = X := by simp [mrg]
theorem mrg_r {f : Nat → Int} {x y : Nat} {X Y : List Nat} (h : f y < f x) : mrg f (x :: X) (y :: Y) = y :: mrg f (x :: X) Y := by rw [mrg]; simp [h]
theorem mrg_l {f : Nat → Int} {x y : Nat} {X Y : List Nat} (h : f x ≤ f y) : mrg f (x :: X) (y :: Y) = x :: mrg f X (y :: Y) := by rw [mrg]; simp [show ¬ f y < f x by omega]

theorem mrg_split (f : Nat → Int) (X2 Y2 : List Nat) : ∀ (n : Nat) (X1 Y1 : List Nat), X1.length + Y1.length = n → (∀ x ∈ X1, ∀ y ∈ Y2, f x ≤ f y) → (∀ y ∈ Y1, ∀ x ∈ X2, f y < f x) → mrg f (X1 ++ X2) (Y1 ++ Y2) = mrg f X1 Y1 ++ mrg f X2 Y2
  | _, [], [], _, _, _ => by simp [mrg_nil]
  | 0, x :: X1, Y1, h, _, _ => by simp at h
  | 0, [], y :: Y1, h, _, _ => by simp at h
  | n + 1, [], y :: Y1, h, h1, h2 => by
    have ih := mrg_split f X2 Y2 n [] Y1 (by simpa using h) h1 (fun z hz => h2 z (by simp [hz]))
    rw [mrg_nil', List.nil_append] at ih ⊢
    cases X2 with
    | nil => simp [mrg_nil']
    | cons x X2 =>
      have := h2 y (by simp) x (by simp)
      rw [List.cons_append, mrg_r this, ih]
      rfl
  | n + 1, x :: X1, [], h, h1, h2 => by
    have ih := mrg_split f X2 Y2 n X1 [] (by simpa using h) (fun z hz => h1 z (by simp [hz])) h2
    rw [mrg_nil, List.nil_append] at ih ⊢
    cases Y2 with
    | nil => simp [mrg_nil]
    | cons y Y2 =>
      have := h1 x (by simp) y (by simp)
      rw [List.cons_append, mrg_l this, ih]
      rfl
  | n + 1, x :: X1, y :: Y1, h, h1, h2 => by
    by_cases hlt : f y < f x
    · have ih := mrg_split f X2 Y2 n (x :: X1) Y1 (by simp at h ⊢; omega) h1 (fun z hz => h2 z (by simp [hz]))
      rw [List.cons_append, List.cons_append, mrg_r hlt, mrg_r hlt, ← List.cons_append, ih]
      rfl
    · have ih := mrg_split f X2 Y2 n X1 (y :: Y1) (by simp at h ⊢; omega) (fun z hz => h1 z (by simp [hz])) h2
      rw [List.cons_append, List.cons_append, mrg_l (by omega), mrg_l (by omega), ← List.cons_append, ih]
      rfl
theorem mrg_mem (f : Nat → Int) (z : Nat) : ∀ (n : Nat) (X Y : List Nat), X.length + Y.length = n → (z ∈ mrg f X Y ↔ z ∈ X ∨ z ∈ Y)
  | _, [], Y, _ => by simp [mrg_nil']
  | _, x :: X, [], _ => by simp [mrg_nil]
  | 0, x :: X, y :: Y, h => by simp at h
  | n + 1, x :: X, y :: Y, h => by
    by_cases hlt : f y < f x
    · have ih := mrg_mem f z n (x :: X) Y (by simp at h ⊢; omega)
      rw [mrg_r hlt, List.mem_cons, ih]
      simp
      constructor
      · rintro (h | h | h) <;> simp [h]
      · rintro ((h | h) | h | h) <;> simp [h]
    · have ih := mrg_mem f z n X (y :: Y) (by simp at h ⊢; omega)
      rw [mrg_l (by omega), List.mem_cons, ih]
      simp
      constructor
      · rintro (h | h | h | h) <;> simp [h]
      · rintro ((h | h) | h | h) <;> simp [h]
theorem mrg_len (f : Nat → Int) : ∀ (n : Nat) (X Y : List Nat), X.length + Y.length = n → (mrg f X Y).length = n
  | _, [], Y, h => by simpa [mrg_nil'] using h
  | _, x :: X, [], h => by simpa [mrg_nil] using h
  | 0, x :: X, y :: Y, h => by simp at h
  | n + 1, x :: X, y :: Y, h => by
    by_cases hlt : f y < f x
    · rw [mrg_r hlt, List.length_cons, mrg_len f n (x :: X) Y (by simp at h ⊢; omega)]
    · rw [mrg_l (by omega), List.length_cons, mrg_len f n X (y :: Y) (by simp at h ⊢; omega)]

def Asc (f : Nat → Int) (l : List Nat) : Prop := l.Pairwise fun x y => f x ≤ f y
theorem Asc.cut {f : Nat → Int} (y : Nat) : ∀ {l : List Nat}, Asc f l → ∃ P Q, l = P ++ Q ∧ (∀ z ∈ P, f z ≤ f y) ∧ ∀ z ∈ Q, f y < f z
  | [], _ => ⟨[], [], rfl, by simp, by simp⟩
  | x :: l, h => by
    rw [Asc, List.pairwise_cons] at h
    by_cases hx : f x ≤ f y
    · obtain ⟨P, Q, rfl, h1, h2⟩ := Asc.cut y h.2
      exact ⟨x :: P, Q, rfl, by intro z hz; rcases List.mem_cons.1 hz with rfl | hz; exact hx; exact h1 z hz, h2⟩
    · refine ⟨[], x :: l, rfl, by simp, ?_⟩
      intro z hz
      rcases List.mem_cons.1 hz with rfl | hz
      · omega
      · have := h.1 z hz; omega

theorem srt_snoc (lt : Nat → Nat → Bool) (l : List Nat) (x : Nat) : srt lt (l ++ [x]) = insL lt x (srt lt l) := by simp [srt, List.foldl_append]

theorem insL_app {f : Nat → Int} {lt : Nat → Nat → Bool} (hl : ∀ x y, lt x y = decide (f x < f y)) {y : Nat} {P : List Nat} : ∀ {Q : List Nat}, (∀ z ∈ P, f z ≤ f y) → (∀ z ∈ Q, f y < f z) → insL lt y (P ++ Q) = P ++ y :: Q := by
  intro Q
  induction hn : Q.length generalizing Q with
  | zero =>
    intro h1 h2
    obtain rfl := List.length_eq_zero_iff.1 hn
    rw [List.append_nil]
    rcases List.eq_nil_or_concat P with rfl | ⟨P', z, rfl⟩
    · rfl
    · rw [List.concat_eq_append, insL_snoc, hl, if_neg (by have := h1 z (by simp); simp; omega)]
      simp
  | succ n ih =>
    intro h1 h2
    obtain ⟨Q', z, rfl⟩ : ∃ l' y, Q = l' ++ [y] := ⟨Q.dropLast, Q.getLast (by intro h; simp [h] at hn), (List.dropLast_concat_getLast _).symm⟩
    rw [← List.append_assoc, insL_snoc, hl, if_pos (by have := h2 z (by simp); simpa using this), ih (by simpa using hn) h1 (fun x hx => h2 x (by simp [hx]))]
    simp
theorem insL_asc {f : Nat → Int} {lt : Nat → Nat → Bool} (hl : ∀ x y, lt x y = decide (f x < f y)) {y : Nat} {l : List Nat} (h : Asc f l) : Asc f (insL lt y l) := by
  obtain ⟨P, Q, rfl, h1, h2⟩ := h.cut y
  rw [insL_app hl h1 h2]
  unfold Asc at *
  rw [List.pairwise_append, List.pairwise_cons] at *
  obtain ⟨a, b, c⟩ := h
  refine ⟨a, ⟨fun z hz => by have := h2 z hz; omega, b⟩, fun x hx z hz => ?_⟩
  rcases List.mem_cons.1 hz with rfl | hz
  · exact h1 x hx
  · exact c x hx z hz
theorem srt_asc {f : Nat → Int} {lt : Nat → Nat → Bool} (hl : ∀ x y, lt x y = decide (f x < f y)) : ∀ l : List Nat, Asc f (srt lt l) := by
  intro l
  induction hn : l.length generalizing l with
  | zero => obtain rfl := List.length_eq_zero_iff.1 hn; exact List.Pairwise.nil
  | succ n ih =>
    obtain ⟨l', y, rfl⟩ : ∃ l' y, l = l' ++ [y] := ⟨l.dropLast, l.getLast (by intro h; simp [h] at hn), (List.dropLast_concat_getLast _).symm⟩
    rw [srt_snoc]
    exact insL_asc hl (ih l' (by simpa using hn))
theorem mrg_ins {f : Nat → Int} {lt : Nat → Nat → Bool} (hl : ∀ x y, lt x y = decide (f x < f y)) {y : Nat} {A B : List Nat} (hA : Asc f A) (hB : Asc f B) : mrg f A (insL lt y B) = insL lt y (mrg f A B) := by
  obtain ⟨A1, A2, rfl, a1, a2⟩ := hA.cut y
  obtain ⟨B1, B2, rfl, b1, b2⟩ := hB.cut y
  have e1 := mrg_split f A2 B2 _ A1 B1 rfl (fun x hx z hz => by have := a1 x hx; have := b2 z hz; omega) (fun z hz x hx => by have := b1 z hz; have := a2 x hx; omega)
  have e2 := mrg_split f A2 (y :: B2) _ A1 B1 rfl (fun x hx z hz => by
    have := a1 x hx
    rcases List.mem_cons.1 hz with rfl | hz
    · exact this
    · have := b2 z hz; omega) (fun z hz x hx => by have := b1 z hz; have := a2 x hx; omega)
  have e3 : mrg f A2 (y :: B2) = y :: mrg f A2 B2 := by
    cases A2 with
    | nil => simp [mrg_nil']
    | cons x A2 => exact mrg_r (a2 x (by simp))
  rw [insL_app hl b1 b2, e2, e1, e3, insL_app hl]
  · intro z hz
    rcases (mrg_mem f z _ _ _ rfl).1 hz with h | h
    · exact a1 z h
    · exact b1 z h
  · intro z hz
    rcases (mrg_mem f z _ _ _ rfl).1 hz with h | h
    · exact a2 z h
    · exact b2 z h
theorem mrg_srt {f : Nat → Int} {lt : Nat → Nat → Bool} (hl : ∀ x y, lt x y = decide (f x < f y)) (X : List Nat) : ∀ Y : List Nat, mrg f (srt lt X) (srt lt Y) = srt lt (X ++ Y) := by
  intro Y
  induction hn : Y.length generalizing Y with
  | zero => obtain rfl := List.length_eq_zero_iff.1 hn; rw [List.append_nil]; exact mrg_nil _ _
  | succ n ih =>
    obtain ⟨l', y, rfl⟩ : ∃ l' y, Y = l' ++ [y] := ⟨Y.dropLast, Y.getLast (by intro h; simp [h] at hn), (List.dropLast_concat_getLast _).symm⟩
    rw [srt_snoc, ← List.append_assoc, srt_snoc, mrg_ins hl (srt_asc hl X) (srt_asc hl l'), ih l' (by simpa using hn)]

/-- Blocks of s, each sorted. -/
def blk (lt : Nat → Nat → Bool) (s : Nat) : Nat → List Nat → List Nat
  | 0, _ => []
  | k + 1, l => if l.length ≤ s then srt lt l else srt lt (l.take s) ++ blk lt s k (l.drop s)

end Go.Proofs.Ytgjnfajdejkkjaa.VG
