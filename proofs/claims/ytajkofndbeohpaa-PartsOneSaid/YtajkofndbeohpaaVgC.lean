/-
  VG, part C: regions. One walk in one order serves every order that the edges allow: reads are taken first, under the promise that what changes the world until their turn at the latest leaves their cells.
-/
import Derived.Test.YtajkofndbeohpaaVgB
namespace Go.Proofs.Ytajkofndbeohpaa.VG
open Go
set_option linter.unusedSimpArgs false
set_option linter.unusedVariables false

abbrev Prom := List (Nat × (World → Prop))
def keep (bf : Nat → Nat → Bool) (j : Nat) (Pr : Prom) : Prom := Pr.filter fun p => !bf p.1 j

section
variable {P : Program} {ops : Array Oper} {Q : Exit → Act → World → Prop} {bf : Nat → Nat → Bool}

def wpAnyP (P : Program) (ops : Array Oper) (Q : Exit → Act → World → Prop) (bf : Nat → Nat → Bool) : Nat → Array Bool → Prom → Act → World → Prop
  | 0, listed, Pr, a, w => (∀ p ∈ Pr, p.2 w) ∧ Region.ready .any ops listed = [] ∧ Q .normal a w
  | fuel + 1, listed, Pr, a, w => (∀ p ∈ Pr, p.2 w) ∧ (Region.ready .any ops listed = [] → Q .normal a w) ∧
      ∀ j ∈ Region.ready .any ops listed, wpOp P ops Q j (fun a' w' => wpAnyP P ops Q bf fuel (listed.setIfInBounds j true) (keep bf j Pr) a' w') a w

theorem wpAnyP_prom {fuel : Nat} {listed : Array Bool} {Pr : Prom} {a : Act} {w : World} (h : wpAnyP P ops Q bf fuel listed Pr a w) : ∀ p ∈ Pr, p.2 w := by
  cases fuel with
  | zero => exact h.1
  | succ n => exact h.1

theorem wpAnyP_sub : ∀ {fuel : Nat} {listed : Array Bool} {Pr Pr' : Prom} {a : Act} {w : World}, wpAnyP P ops Q bf fuel listed Pr a w → (∀ p ∈ Pr', p ∈ Pr) →
    wpAnyP P ops Q bf fuel listed Pr' a w
  | 0, _, _, _, _, _, h, hs => ⟨fun p hp => h.1 p (hs p hp), h.2⟩
  | fuel + 1, _, _, _, _, _, h, hs => ⟨fun p hp => h.1 p (hs p hp), h.2.1, fun j hj => wpOp_mono (fun a' w' h' => wpAnyP_sub h' (fun p hp => by
      simp only [keep, List.mem_filter] at hp ⊢
      exact ⟨hs p hp.1, hp.2⟩)) (h.2.2 j hj)⟩

theorem wpAnyP_any : ∀ {fuel : Nat} {listed : Array Bool} {Pr : Prom} {a : Act} {w : World}, wpAnyP P ops Q bf fuel listed Pr a w → wpAny P .any ops Q fuel listed a w
  | 0, _, _, _, _, h => h.2
  | fuel + 1, _, _, _, _, h => ⟨h.2.1, fun j hj => wpOp_mono (fun a' w' h' => wpAnyP_any h') (h.2.2 j hj)⟩

/-- What is listed has all that it waits for listed. -/
def Closed (ops : Array Oper) (listed : Array Bool) : Prop :=
  ∀ (j : Nat) (oj : Oper), ops[j]? = some oj → listed.getD j false = true → ∀ e ∈ oj.after, Region.binds .any e = true → listed.getD e.on false = true

/-- 'bf i j': i comes before j. -/
def BfOk (ops : Array Oper) (bf : Nat → Nat → Bool) : Prop :=
  ∀ i j, bf i j = true → ∃ oj, ops[j]? = some oj ∧ ∃ e ∈ oj.after, Region.binds .any e = true ∧ e.on < j ∧ (e.on = i ∨ bf i e.on = true)

theorem listed_of_bf (hb : BfOk ops bf) {listed : Array Bool} (hc : Closed ops listed) (i : Nat) : ∀ (n j : Nat), j ≤ n → listed.getD j false = true → bf i j = true → listed.getD i false = true := by
  intro n
  induction n with
  | zero =>
    intro j hj hl hbf
    obtain ⟨oj, hoj, e, he, hbind, hlt, h⟩ := hb i j hbf
    omega
  | succ n ih =>
    intro j hj hl hbf
    obtain ⟨oj, hoj, e, he, hbind, hlt, h⟩ := hb i j hbf
    have h1 := hc j oj hoj hl e he hbind
    rcases h with h | h
    · rw [← h]; exact h1
    · exact ih e.on (by omega) h1 h

theorem not_bf_of_ready (hb : BfOk ops bf) {listed : Array Bool} (hc : Closed ops listed) {i j : Nat} (hj : j ∈ Region.ready .any ops listed) (hi : listed.getD i false = false) : bf i j = false := by
  cases hbf : bf i j with
  | false => rfl
  | true =>
    obtain ⟨oj, hoj, e, he, hbind, hlt, h⟩ := hb i j hbf
    obtain ⟨_, oj', hoj', hall⟩ := mem_ready.1 hj
    have : oj' = oj := Option.some.inj (hoj'.symm.trans hoj)
    subst this
    have h1 := hall e he hbind
    rcases h with h | h
    · rw [h, hi] at h1; cases h1
    · have := listed_of_bf hb hc i _ _ (Nat.le_refl _) h1 h
      rw [hi] at this; cases this

theorem getD_mix {listed : Array Bool} {i : Nat} (h : listed.getD i true = false) : listed.getD i false = false := by
  rcases Nat.lt_or_ge i listed.size with h' | h'
  · simp [h'] at h ⊢; exact h
  · simp [Array.getElem?_eq_none h'] at h

theorem Closed.set {listed : Array Bool} (hc : Closed ops listed) {j : Nat} (hj : j ∈ Region.ready .any ops listed) : Closed ops (listed.setIfInBounds j true) := by
  intro k ok hk hl e he hb
  obtain ⟨_, oj, hoj, hall⟩ := mem_ready.1 hj
  by_cases hkj : j = k
  · subst hkj
    have : oj = ok := Option.some.inj (hoj.symm.trans hk)
    subst this
    exact getD_set_true (hall e he hb)
  · rw [getD_set_ne false hkj] at hl
    exact getD_set_true (hc k ok hk hl e he hb)

theorem closed_none (n : Nat) : Closed ops (Array.replicate n false) := by
  intro j oj _ hl
  rcases Nat.lt_or_ge j n with h | h
  · simp [h] at hl
  · simp [h] at hl

theorem take_first {i : Nat} {oi : Oper} {v : Value} {S : World → Prop} (hb : BfOk ops bf) (hi : ops[i]? = some oi) (hsel : ∀ (j : Nat) (o : Oper) cs b, ops[j]? = some o → o.op ≠ .select cs b)
    (hQ : ∀ c a w, Q (.panic c) (a.put oi.dst v) w → Q (.panic c) a w) :
    ∀ (fuel : Nat) (listed : Array Bool) (Pr : Prom) (a : Act) (w : World), Closed ops listed →
      (∀ j oj, ops[j]? = some oj → j ≠ i → listed.getD j true = false → (∀ e ∈ oj.after, Region.binds .any e = true → e.on ≠ i) → oi.apart ops oj = true) →
      i ∈ Region.ready .any ops listed → YieldsIf P ops S oi v a →
      wpAnyP P ops Q bf fuel (listed.setIfInBounds i true) ((i, S) :: Pr) (a.put oi.dst v) w → wpAnyP P ops Q bf (fuel + 1) listed Pr a w := by
  intro fuel
  induction fuel with
  | zero =>
    intro listed Pr a w hc hfree hr hy H
    have hS : S w := wpAnyP_prom H (i, S) (List.mem_cons_self ..)
    refine ⟨fun p hp => wpAnyP_prom H p (List.mem_cons_of_mem _ hp), fun h => (by rw [h] at hr; cases hr), fun j hj => ?_⟩
    by_cases hji : j = i
    · subst hji
      exact hy.wpOp hi hS (wpAnyP_sub H (fun p hp => List.mem_cons_of_mem _ (List.mem_filter.1 hp).1))
    · have := ready_mono hj hji
      rw [H.2.1] at this
      cases this
  | succ fuel ih =>
    intro listed Pr a w hc hfree hr hy H
    have hS : S w := wpAnyP_prom H (i, S) (List.mem_cons_self ..)
    refine ⟨fun p hp => wpAnyP_prom H p (List.mem_cons_of_mem _ hp), fun h => (by rw [h] at hr; cases hr), fun j hj => ?_⟩
    by_cases hji : j = i
    · subst hji
      exact hy.wpOp hi hS (wpAnyP_sub H (fun p hp => List.mem_cons_of_mem _ (List.mem_filter.1 hp).1))
    · have h1 := H.2.2 j (ready_mono hj hji)
      obtain ⟨hjun, oj, hoj, hall⟩ := mem_ready.1 hj
      have hiun : listed.getD i false = false := getD_mix (mem_ready.1 hr).1
      have hnot : ∀ e ∈ oj.after, Region.binds .any e = true → e.on ≠ i := fun e he hb' heq => by
        have h1 := hall e he hb'
        rw [heq, hiun] at h1
        cases h1
      have hbij : bf i j = false := not_bf_of_ready hb hc hj hiun
      have hk : keep bf j ((i, S) :: Pr) = (i, S) :: keep bf j Pr := by simp [keep, hbij]
      rw [hk] at h1
      have h2 := wpOp_putIf hoj (hfree j oj hoj hji hjun hnot) (fun cs b => hsel i oi cs b hi) (fun cs b => hsel j oj cs b hoj) hQ hy h1
      have hfree' : ∀ k ok, ops[k]? = some ok → k ≠ i → (listed.setIfInBounds j true).getD k true = false →
          (∀ e ∈ ok.after, Region.binds .any e = true → e.on ≠ i) → oi.apart ops ok = true := fun k ok hk hki hun hno => by
        refine hfree k ok hk hki ?_ hno
        by_cases hjk : j = k
        · subst hjk; exact hjun
        · rw [getD_set_ne true hjk] at hun; exact hun
      refine wpOp_mono (fun a' w' h3 => ih (listed.setIfInBounds j true) _ a' w' (hc.set hj) hfree' (ready_mono hr (Ne.symm hji)) h3.1 ?_) h2
      rw [Array.setIfInBounds_comm _ _ hji]
      exact h3.2

/-- An order in which the operations are gone through; where several may come next and none can be taken first: each of them. -/
inductive Sched where
  | nil
  | op (i : Nat) (s : Sched)
  | alt (a b : Sched)

def Sched.heads : Sched → List Nat
  | .nil => []
  | .op i _ => [i]
  | .alt a b => a.heads ++ b.heads

def schedOf : List Nat → Sched
  | [] => .nil
  | i :: r => .op i (schedOf r)

/-- The walk in one order. 'q i': operation i only reads. -/
def wpS (P : Program) (ops : Array Oper) (Q : Exit → Act → World → Prop) (bf : Nat → Nat → Bool) (q : Nat → Bool) : Sched → Prom → Act → World → Prop
  | .nil, _, a, w => Q .normal a w
  | .op i rest, Pr, a, w => match ops[i]? with
    | none => False
    | some oi => if q i then ∃ v S, S w ∧ YieldsIf P ops S oi v a ∧ wpS P ops Q bf q rest ((i, S) :: Pr) (a.put oi.dst v) w
      else wpOp P ops Q i (fun a' w' => (∀ p ∈ keep bf i Pr, p.2 w') ∧ wpS P ops Q bf q rest (keep bf i Pr) a' w') a w
  | .alt x y, Pr, a, w => wpS P ops Q bf q x Pr a w ∧ wpS P ops Q bf q y Pr a w

def chkSched (ops : Array Oper) (q : Nat → Bool) : Bool → Sched → Nat → Array Bool → Bool
  | inAlt, .nil, _, listed => !inAlt && (Region.ready .any ops listed).isEmpty
  | _, .op _ _, 0, _ => false
  | inAlt, .op i rest, f + 1, listed => (if inAlt then !q i else if q i then (Region.ready .any ops listed).contains i && Region.free .any ops listed i else Region.ready .any ops listed == [i])
      && chkSched ops q false rest f (listed.setIfInBounds i true)
  | inAlt, .alt a b, f, listed => (inAlt || (!(Region.ready .any ops listed).isEmpty && (Region.ready .any ops listed).all fun j => (a.heads ++ b.heads).contains j)) && chkSched ops q true a f listed && chkSched ops q true b f listed

/-- Under an 'alt' every head is an effect whose rest goes on. -/
theorem alt_head {q : Nat → Bool} : ∀ (x : Sched) (f : Nat) (listed : Array Bool) (Pr : Prom) (a : Act) (w : World), chkSched ops q true x f listed = true → wpS P ops Q bf q x Pr a w → ∀ j ∈ x.heads,
    ∃ f' rest, f = f' + 1 ∧ q j = false ∧ chkSched ops q false rest f' (listed.setIfInBounds j true) = true ∧
      wpOp P ops Q j (fun a' w' => (∀ p ∈ keep bf j Pr, p.2 w') ∧ wpS P ops Q bf q rest (keep bf j Pr) a' w') a w
  | .nil, f, listed, Pr, a, w, hchk, h, j, hj => by simp [Sched.heads] at hj
  | .op i rest, 0, listed, Pr, a, w, hchk, h, j, hj => by simp [chkSched] at hchk
  | .op i rest, f + 1, listed, Pr, a, w, hchk, h, j, hj => by
    simp only [Sched.heads, List.mem_singleton] at hj
    subst hj
    simp only [chkSched, if_true, Bool.and_eq_true, Bool.not_eq_true'] at hchk
    refine ⟨f, rest, rfl, hchk.1, hchk.2, ?_⟩
    simp only [wpS] at h
    cases hi : ops[j]? with
    | none => simp only [hi] at h
    | some oi => simp only [hi, hchk.1, Bool.false_eq_true, if_false] at h; exact h
  | .alt x y, f, listed, Pr, a, w, hchk, h, j, hj => by
    simp only [Sched.heads, List.mem_append] at hj
    simp only [chkSched, Bool.true_or, Bool.true_and, Bool.and_eq_true] at hchk
    rcases hj with hj | hj
    · exact alt_head x f listed Pr a w hchk.1 h.1 j hj
    · exact alt_head y f listed Pr a w hchk.2 h.2 j hj

theorem wpS_any {q : Nat → Bool} (hb : BfOk ops bf) (hsel : Region.noSelect ops = true) (hQ : ∀ (c : List PanicEntry) (a : Act) (w : World), Q (.panic c) a w → False) :
    ∀ (f : Nat) (sched : Sched) (listed : Array Bool) (Pr : Prom) (a : Act) (w : World), chkSched ops q false sched f listed = true → Closed ops listed → (∀ p ∈ Pr, p.2 w) →
      wpS P ops Q bf q sched Pr a w → wpAnyP P ops Q bf f listed Pr a w := by
  intro f
  induction f with
  | zero =>
    intro sched listed Pr a w hchk hc hp h
    cases sched with
    | nil =>
      simp only [chkSched, Bool.not_false, Bool.true_and, List.isEmpty_iff] at hchk
      exact ⟨hp, hchk, h⟩
    | op i rest => simp [chkSched] at hchk
    | alt x y =>
      exfalso
      simp only [chkSched, Bool.false_or, Bool.and_eq_true, Bool.not_eq_true', List.all_eq_true] at hchk
      obtain ⟨⟨⟨hne, hall⟩, h1⟩, h2⟩ := hchk
      cases hr : Region.ready .any ops listed with
      | nil => rw [hr] at hne; simp at hne
      | cons j r =>
        have hj := hall j (by rw [hr]; exact List.mem_cons_self ..)
        have hj' : j ∈ (Sched.alt x y).heads := by simpa [Sched.heads] using hj
        obtain ⟨f', rest, h3, _⟩ := alt_head (P := P) (Q := Q) (bf := bf) (.alt x y) 0 listed Pr a w (by simp [chkSched, h1, h2]) h j hj'
        omega
  | succ f ih =>
    intro sched listed Pr a w hchk hc hp h
    cases sched with
    | nil =>
      simp only [chkSched, Bool.not_false, Bool.true_and, List.isEmpty_iff] at hchk
      exact ⟨hp, fun _ => h, fun j hj => by rw [hchk] at hj; cases hj⟩
    | op i rest =>
      simp only [chkSched, Bool.false_eq_true, if_false, Bool.and_eq_true] at hchk
      simp only [wpS] at h
      cases hi : ops[i]? with
      | none => simp only [hi] at h
      | some oi =>
        simp only [hi] at h
        by_cases hq : q i = true
        · simp only [hq, if_true, Bool.and_eq_true] at h hchk
          obtain ⟨v, S, hS, hy, h⟩ := h
          have hr : i ∈ Region.ready .any ops listed := by simpa using hchk.1.1
          refine take_first hb hi (Region.noSelect_spec hsel) (fun c a w h => (hQ c _ w h).elim) f listed Pr a w hc (Region.free_spec hi hchk.1.2) hr hy ?_
          refine ih rest _ _ _ _ hchk.2 (hc.set hr) ?_ h
          intro p hp'
          rcases List.mem_cons.1 hp' with rfl | hp'
          · exact hS
          · exact hp p hp'
        · have hq' : q i = false := by simpa using hq
          simp only [hq', Bool.false_eq_true, if_false] at h hchk
          have hr : Region.ready .any ops listed = [i] := by simpa using hchk.1
          refine ⟨hp, fun h0 => (by rw [hr] at h0; cases h0), fun j hj => ?_⟩
          have hji : j = i := by rw [hr] at hj; simpa using hj
          subst hji
          exact wpOp_mono (fun a' w' h' => ih rest _ _ _ _ hchk.2 (hc.set hj) h'.1 h'.2) h
    | alt x y =>
      have hchk0 := hchk
      simp only [chkSched, Bool.false_or, Bool.and_eq_true, Bool.not_eq_true', List.all_eq_true] at hchk
      obtain ⟨⟨⟨hne, hall⟩, h1⟩, h2⟩ := hchk
      refine ⟨hp, fun h0 => (by rw [h0] at hne; simp at hne), fun j hj => ?_⟩
      have hj' : j ∈ (Sched.alt x y).heads := by simpa [Sched.heads] using hall j hj
      obtain ⟨f', rest, h3, h5, h6, h7⟩ := alt_head (P := P) (Q := Q) (bf := bf) (.alt x y) (f + 1) listed Pr a w (by simp [chkSched, h1, h2]) h j hj'
      have : f' = f := by omega
      subst this
      exact wpOp_mono (fun a' w' h' => ih rest _ _ _ _ h6 (hc.set hj) h'.1 h'.2) h7

theorem wpS_ops {q : Nat → Bool} : ∀ (sched : List Nat) (Pr : Prom) (a : Act) (w : World), wpS P ops Q bf q (schedOf sched) Pr a w → wpOps P ops Q sched a w
  | [], _, a, w, h => h
  | i :: rest, Pr, a, w, h => by
    rw [wpOps_cons]
    simp only [schedOf, wpS] at h
    cases hi : ops[i]? with
    | none => simp only [hi] at h
    | some oi =>
      simp only [hi] at h
      by_cases hq : q i = true
      · simp only [hq, if_true] at h
        obtain ⟨v, S, hS, hy, h⟩ := h
        exact hy.wpOp hi hS (wpS_ops rest _ _ _ h)
      · have hq' : q i = false := by simpa using hq
        simp only [hq', Bool.false_eq_true, if_false] at h
        exact wpOp_mono (fun a' w' h' => wpS_ops rest _ _ _ h'.2) h

theorem region_plain {q : Nat → Bool} {id : Nat} {a : Act} {w : World} (h : wpS P ops Q bf q (schedOf (List.range ops.size)) [] a w) : (Code.region id ops false).wp P Q a w :=
  wp_region (wpS_ops _ _ _ _ h)

theorem region_draw {q : Nat → Bool} {id : Nat} {a : Act} {w : World} {sched : Sched} (hm : P.follows .mixedOrders = true) (hb : BfOk ops bf) (hsel : Region.noSelect ops = true)
    (hQ : ∀ (c : List PanicEntry) (a : Act) (w : World), Q (.panic c) a w → False) (hchk : chkSched ops q false sched ops.size (Array.replicate ops.size false) = true)
    (h : wpS P ops Q bf q sched [] a { w with drawn := w.drawn + 1 }) : (Code.region id ops true).wp P Q a w := by
  refine wp_region_any hm ?_
  exact wpAnyP_any (wpS_any hb hsel hQ ops.size sched (Array.replicate ops.size false) [] a { w with drawn := w.drawn + 1 } hchk (closed_none _) (by simp) h)

end
end Go.Proofs.Ytajkofndbeohpaa.VG
