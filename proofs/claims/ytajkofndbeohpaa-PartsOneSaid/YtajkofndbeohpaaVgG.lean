/-
  VG, part G: a region's translation is sound.
-/
import Derived.Test.YtajkofndbeohpaaVgF
namespace Go.Proofs.Ytajkofndbeohpaa.VG
open Go
set_option linter.unusedSimpArgs false
set_option linter.unusedVariables false

def EntOk (en : Ent) (env : Env) (w : World) (a : Act) : Prop :=
  match en.g with
  | none => a.tmps.getD en.t undef = en.e.ev env w
  | some (tg, want) => a.tmps.getD tg undef = en.ge.ev env w ∧
      a.tmps.getD en.t undef = if isBool (a.tmps.getD tg undef) want = true then en.e.ev env w else undef

structure Agree (L : List Nat) (n : Nat) (env : Env) (a : Act) : Prop where
  size : a.tmps.size = n
  defers : a.defers = []
  eq : ∀ t ∈ L, a.tmps.getD t undef = env t

structure Inv (st : St) (n : Nat) (env : Env) (w : World) (a : Act) : Prop where
  ag : Agree st.lv n env a
  m : ∀ en ∈ st.m, EntOk en env w a

def Sat (a : Act) (g : Option (Nat × Bool)) : Prop := ∀ tg want, g = some (tg, want) → isBool (a.tmps.getD tg undef) want = true

section
variable {P : Program} {ops : Array Oper}

theorem sat_none (a : Act) : Sat a none := fun _ _ h => by cases h

theorem rd_ok {st : St} {n : Nat} {env : Env} {w : World} {a : Act} (inv : Inv st n env w a) {cur ext : Option (Nat × Bool)} (hcur : Sat a cur) (hext : Sat a ext) {x : Operand} {e : E}
    (h : rd st.lv st.m cur ext x = some e) : a.eval x = e.ev env w := by
  cases x with
  | const v => simp only [rd, Option.some.injEq] at h; subst h; rfl
  | global g => simp only [rd, Option.some.injEq] at h; subst h; rfl
  | func f => simp only [rd, Option.some.injEq] at h; subst h; rfl
  | tmp t =>
    simp only [rd] at h
    split at h
    case isTrue hl =>
      cases h
      exact inv.ag.eq t (by simpa using hl)
    case isFalse hl =>
      split at h
      case h_1 => cases h
      case h_2 en hf =>
        have hm := List.mem_of_find?_eq_some hf
        have ht : en.t = t := by have := List.find?_some hf; simpa using this
        have hok := inv.m en hm
        unfold EntOk at hok
        split at h
        case h_1 hg =>
          simp only [hg] at hok
          cases h
          simp only [Act.eval, ← ht]; exact hok
        case h_2 tg want hg =>
          simp only [hg] at hok
          obtain ⟨h1, h2⟩ := hok
          split at h
          case isTrue hc =>
            cases h
            have hb : isBool (a.tmps.getD tg undef) want = true := by
              simp only [Bool.or_eq_true, beq_iff_eq] at hc
              rcases hc with hc | hc
              · exact hcur tg want hc
              · exact hext tg want hc
            simp only [Act.eval, ← ht]
            rw [h2, if_pos hb]
          case isFalse hc =>
            cases h
            simp only [Act.eval, ← ht, E.ev]
            rw [h2, h1]

theorem wanted_eq {o : Oper} {cur : Option (Nat × Bool)} (h : guardT ops o = some cur) (a : Act) :
    Region.wanted o (yielded ops a.tmps) = (match cur with | none => true | some (tg, want) => isBool (a.tmps.getD tg undef) want) := by
  unfold guardT at h
  split at h
  case h_1 hg =>
    cases h
    simp [Region.wanted, hg]
  case h_2 j want hg =>
    split at h
    case h_1 tg hd =>
      cases h
      simp only [Region.wanted, hg, yielded, hd, Option.bind_some]
      by_cases hlt : tg < a.tmps.size
      · simp only [Array.getD, hlt, dite_true, Array.getElem?_eq_getElem hlt]
        show _ = isBool (a.tmps[tg]) want
        cases a.tmps[tg] <;> simp [isBool]
      · simp [Array.getElem?_eq_none (Nat.le_of_not_lt hlt), hlt, isBool, undef]
    case h_2 => cases h

theorem guardE_ok {st : St} {n : Nat} {env : Env} {w : World} {a : Act} (inv : Inv st n env w a) {tg : Nat} {want : Bool} {ge : Option (E × Bool)} (h : guardE st (some (tg, want)) = some ge) :
    ∃ e, ge = some (e, want) ∧ a.tmps.getD tg undef = e.ev env w := by
  simp only [guardE] at h
  split at h
  case h_1 e he =>
    cases h
    exact ⟨e, rfl, rd_ok inv (sat_none a) (sat_none a) he⟩
  case h_2 => cases h

/-- The guard's outcome, by the temporary or by its expression. -/
def gHolds (ge : Option (E × Bool)) (env : Env) (w : World) : Prop :=
  match ge with
  | none => True
  | some (e, want) => isBool (e.ev env w) want = true

theorem wrapG_ev_true {ge : Option (E × Bool)} {e : E} {env : Env} {w : World} (h : gHolds ge env w) : (wrapG ge e).ev env w = e.ev env w := by
  cases ge with
  | none => rfl
  | some p => obtain ⟨g, want⟩ := p; simp only [gHolds] at h; simp [wrapG, E.ev, h]

theorem wrapG_ev_false {ge : Option (E × Bool)} {e : E} {env : Env} {w : World} (h : ¬ gHolds ge env w) : (wrapG ge e).ev env w = undef := by
  cases ge with
  | none => exact absurd trivial h
  | some p => obtain ⟨g, want⟩ := p; simp only [gHolds] at h; simp [wrapG, E.ev, h]

theorem wrapG_ok {ge : Option (E × Bool)} {e : E} {env : Env} {w : World} (h : (wrapG ge e).ok env w) (hg : gHolds ge env w) : e.ok env w := by
  cases ge with
  | none => exact h
  | some p => obtain ⟨g, want⟩ := p; exact h hg

theorem wanted_iff {st : St} {n : Nat} {env : Env} {w : World} {a : Act} (inv : Inv st n env w a) {o : Oper} {cur : Option (Nat × Bool)} {ge : Option (E × Bool)} (h : guardT ops o = some cur) (hge : guardE st cur = some ge) :
    (Region.wanted o (yielded ops a.tmps) = true ↔ gHolds ge env w) ∧ (gHolds ge env w → Sat a cur) := by
  rw [wanted_eq h a]
  cases cur with
  | none =>
    simp only [guardE, Option.some.injEq] at hge
    subst hge
    exact ⟨by simp [gHolds], fun _ => sat_none a⟩
  | some p =>
    obtain ⟨tg, want⟩ := p
    obtain ⟨e, rfl, he⟩ := guardE_ok inv hge
    simp only [gHolds, he]
    refine ⟨by first | trivial | exact Iff.rfl, fun hb tg' want' heq => ?_⟩
    cases heq
    rw [he]; exact hb

theorem mkPk_ok {c x y : E} {env : Env} {w : World} (h : (mkPk c x y).ok env w) : isB (c.ev env w) := by
  unfold mkPk at h
  split at h
  · split at h <;> exact h
  · split at h <;> exact h
  · exact h

theorem mkPk_ev {c x y : E} {env : Env} {w : World} : (mkPk c x y).ev env w = if asB (c.ev env w) = true then x.ev env w else y.ev env w := by
  unfold mkPk
  split
  · split
    · rename_i hb
      simp only [E.ev]
      rw [boolE_ok hb env w]
      cases asB (c.ev env w) <;> simp [asB]
    · rfl
  · split
    · rename_i hb
      simp only [E.ev]
      rw [boolE_ok hb env w]
      cases asB (c.ev env w) <;> simp [asB]
    · rfl
  · rfl

theorem sat_ext {a : Act} {c : Operand} {b : Bool} (h : a.eval c = .bool b) : Sat a (extOf b c) := by
  intro tg want heq
  cases c <;> simp only [extOf] at heq <;> cases heq
  simp only [Act.eval] at h
  rw [h]; simp [isBool]

/-- An operation that only reads yields its expression. -/
theorem opE_run {st : St} {n : Nat} {env : Env} {w : World} {a : Act} (inv : Inv st n env w a) {o : Oper} {cur : Option (Nat × Bool)} (hcur : Sat a cur) {e : E} (h : opE P st cur o.op = some e) (hok : isMv o.op = true ∨ e.ok env w)
    (w' : World) (hw : Holds1 e env w w') : (execOp a.eval o).run P w' = .ok (.value (e.ev env w)) w' := by
  unfold opE at h
  split at h
  case h_1 c x y heq =>
    split at h
    case h_1 ec ea eb hc hx hy =>
      cases h
      have h1 := rd_ok inv hcur (sat_none a) hc
      have hb := mkPk_ok (hok.resolve_left (by rw [heq]; simp [isMv]))
      obtain ⟨b, hb⟩ := isB_cases hb
      obtain ⟨dst, op, ty, pos, af, gd⟩ := o
      simp only at heq
      subst heq
      rw [mkPk_ev, hb]
      simp only [execOp, h1, hb, asBool, run_bind, run_pure, asB]
      cases b with
      | true => simp only [if_true]; rw [rd_ok inv hcur (sat_ext (h1.trans hb)) hx]
      | false => simp only [Bool.false_eq_true, if_false]; rw [rd_ok inv hcur (sat_ext (h1.trans hb)) hy]
    case h_2 => cases h
  case h_2 =>
    exact cE_run h a.eval env w (fun _ => rfl) (fun x ex hx _ => rd_ok inv hcur (sat_none a) hx) hok w' hw


theorem getD_set_other (xs : Array Value) {t t' : Nat} (v : Value) (h : t' ≠ t) : (xs.setIfInBounds t v).getD t' undef = xs.getD t' undef := by
  simp only [Array.getD_eq_getD_getElem?]
  rw [Array.getElem?_setIfInBounds_ne (Ne.symm h)]
theorem getD_set_self (xs : Array Value) {t : Nat} (v : Value) (h : t < xs.size) : (xs.setIfInBounds t v).getD t undef = v := by
  simp only [Array.getD_eq_getD_getElem?]
  simp [h]

theorem consO_mem {t t' : Nat} {lv : List Nat} : t' ∈ consO (some t) lv ↔ t' = t ∨ t' ∈ lv := by
  simp only [consO]
  split
  · rename_i h
    have : t ∈ lv := by simpa using h
    constructor
    · exact .inr
    · rintro (rfl | h)
      · exact this
      · exact h
  · simp

theorem mem_cut {t : Nat} {m : List Ent} {en : Ent} (h : en ∈ cut t m) : en ∈ m ∧ en.t ≠ t ∧ (∀ tg want, en.g = some (tg, want) → tg ≠ t) ∧ en.e.ment t = false ∧ en.ge.ment t = false := by
  simp only [cut, List.mem_filter, Bool.and_eq_true, bne_iff_ne, Bool.not_eq_true'] at h
  obtain ⟨h1, ⟨⟨h2, h3⟩, h4⟩, h5⟩ := h
  refine ⟨h1, h2, fun tg want hg => ?_, h4, h5⟩
  rw [hg] at h3
  simpa using h3

theorem entOk_put {en : Ent} {env : Env} {w : World} {a : Act} {t : Nat} {v : Value} (h : EntOk en env w a) (h1 : en.t ≠ t) (h2 : ∀ tg want, en.g = some (tg, want) → tg ≠ t) : EntOk en env w (a.put (some t) v) := by
  unfold EntOk at *
  cases hg : en.g with
  | none => simp only [hg] at h ⊢; simp only [Act.put]; rw [getD_set_other _ _ h1]; exact h
  | some p =>
    obtain ⟨tg, want⟩ := p
    simp only [hg] at h ⊢
    have e1 : (a.put (some t) v).tmps.getD en.t undef = a.tmps.getD en.t undef := getD_set_other _ _ h1
    have e2 : (a.put (some t) v).tmps.getD tg undef = a.tmps.getD tg undef := getD_set_other _ _ (h2 tg want hg)
    rw [e1, e2]
    exact h

theorem entOk_upd {en : Ent} {env : Env} {w : World} {a : Act} {t : Nat} {v : Value} (h : EntOk en env w a) (h1 : en.e.ment t = false) (h2 : en.ge.ment t = false) : EntOk en (upd env t v) w a := by
  unfold EntOk at *
  cases hg : en.g with
  | none => simp only [hg] at h ⊢; rw [E.ev_upd _ h1]; exact h
  | some p =>
    obtain ⟨tg, want⟩ := p
    simp only [hg] at h ⊢
    rw [E.ev_upd _ h1, E.ev_upd _ h2]
    exact h

theorem entOk_world {en : Ent} {env : Env} {w w' : World} {a : Act} (h : EntOk en env w a) (h1 : en.e.pure = true) (h2 : en.ge.pure = true) : EntOk en env w' a := by
  unfold EntOk at *
  cases hg : en.g with
  | none => simp only [hg] at h ⊢; rw [E.ev_pure (w := w) _ h1]; exact h
  | some p =>
    obtain ⟨tg, want⟩ := p
    simp only [hg] at h ⊢
    rw [E.ev_pure (w := w) _ h1, E.ev_pure (w := w) _ h2]
    exact h

theorem Inv.put_new {st : St} {n : Nat} {env : Env} {w : World} {a : Act} (inv : Inv st n env w a) {t : Nat} (ht : t < n) (hl : st.lv.contains t = false) {en : Ent} (het : en.t = t) {v : Value} (pr : Option (List PrE))
    (hen : EntOk en env w (a.put (some t) v)) : Inv ⟨st.lv, en :: cut t st.m, pr⟩ n env w (a.put (some t) v) := by
  refine ⟨⟨?_, inv.ag.defers, fun t' ht' => ?_⟩, fun en' hen' => ?_⟩
  · simp [Act.put, inv.ag.size]
  · have : t' ≠ t := fun e => by subst e; simp at hl; exact hl ht'
    simp only [Act.put]
    rw [getD_set_other _ _ this]
    exact inv.ag.eq t' ht'
  · rcases List.mem_cons.1 hen' with rfl | hen'
    · exact hen
    · obtain ⟨h1, h2, h3, h4, h5⟩ := mem_cut hen'
      exact entOk_put (inv.m en' h1) h2 h3

theorem Inv.put_set {st : St} {n : Nat} {env : Env} {w : World} {a : Act} (inv : Inv st n env w a) {t : Nat} (ht : t < n) (v : Value) (pr : Option (List PrE)) :
    Inv ⟨consO (some t) st.lv, cut t st.m, pr⟩ n (upd env t v) w (a.put (some t) v) := by
  refine ⟨⟨?_, inv.ag.defers, fun t' ht' => ?_⟩, fun en hen => ?_⟩
  · simp [Act.put, inv.ag.size]
  · simp only [Act.put, upd]
    by_cases h : t' = t
    · subst h
      rw [getD_set_self _ _ (by rw [inv.ag.size]; exact ht), if_pos rfl]
    · rw [getD_set_other _ _ h, if_neg h]
      exact inv.ag.eq t' ((consO_mem.1 ht').resolve_left h)
  · obtain ⟨h1, h2, h3, h4, h5⟩ := mem_cut hen
    exact entOk_upd (entOk_put (inv.m en h1) h2 h3) h4 h5

theorem Inv.world {st : St} {n : Nat} {env : Env} {w : World} {a : Act} (inv : Inv st n env w a) (w' : World) (pr : Option (List PrE)) :
    Inv ⟨st.lv, st.m.filter (fun en => en.e.pure && en.ge.pure), pr⟩ n env w' a := by
  refine ⟨inv.ag, fun en hen => ?_⟩
  simp only [List.mem_filter, Bool.and_eq_true] at hen
  exact entOk_world (inv.m en hen.1) hen.2.1 hen.2.2

theorem Inv.eff {st : St} {n : Nat} {env : Env} {w : World} {a : Act} (inv : Inv st n env w a) (d : Option Nat) (hd : ∀ t, d = some t → t < n) (v : Value) (w' : World) (pr : Option (List PrE)) :
    Inv ⟨consO d st.lv, (cuto d st.m).filter (fun en => en.e.pure && en.ge.pure), pr⟩ n (updo env d v) w' (a.put d v) := by
  cases d with
  | none => exact inv.world w' pr
  | some t => exact (inv.put_set (hd t rfl) v pr).world w' pr

def PrRel (pr : Option (List PrE)) (Pr : Prom) (env : Env) (w : World) : Prop :=
  ∀ l, pr = some l → ∀ p ∈ Pr, (∀ w', p.2 w') ∨ ∃ pe ∈ l, pe.i = p.1 ∧ pe.pure = true ∧ ∀ w', promOk pe env w w' → p.2 w'

theorem promOk_upd {pe : PrE} {env : Env} {w w' : World} {t : Nat} {v : Value} (h : pe.ment t = false) : promOk pe (upd env t v) w w' ↔ promOk pe env w w' := by
  obtain ⟨i, a, n, g⟩ := pe
  simp only [PrE.ment, Bool.or_eq_false_iff] at h
  unfold promOk
  cases g with
  | none => simp only [E.ev_upd a h.1]
  | some p => obtain ⟨g, want⟩ := p; simp only [E.ev_upd a h.1, E.ev_upd g h.2]

theorem SameCells.trans {a : Addr} {n : Nat} {w w' w'' : World} (h : SameCells a n w w') (k : SameCells a n w' w'') : SameCells a n w w'' := fun j hj => (k j hj).trans (h j hj)

theorem promOk_trans {pe : PrE} {env : Env} {w w' w'' : World} (hp : pe.pure = true) (h : promOk pe env w w') (k : promOk pe env w' w'') : promOk pe env w w'' := by
  obtain ⟨i, a, n, g⟩ := pe
  simp only [PrE.pure, Bool.and_eq_true] at hp
  unfold promOk at *
  intro hg
  have ea : a.ev env w' = a.ev env w := E.ev_pure a hp.1
  have h1 := h hg
  simp only at h1 k ⊢
  rw [ea] at k
  refine h1.trans (k ?_)
  cases g with
  | none => trivial
  | some p => obtain ⟨g, want⟩ := p; simp only at hg ⊢; rw [E.ev_pure (w := w) g hp.2]; exact hg

theorem PrRel.cut {pr : Option (List PrE)} {Pr : Prom} {env : Env} {w : World} (h : PrRel pr Pr env w) (t : Nat) (v : Value) : PrRel (prCut t pr) Pr (upd env t v) w := by
  intro l hl p hp
  cases pr with
  | none => simp [prCut] at hl
  | some l' =>
    simp only [prCut] at hl
    split at hl
    · cases hl
    · rename_i hn
      simp only [Option.some.injEq] at hl
      subst hl
      rcases h l' rfl p hp with h1 | ⟨pe, h1, h2, h3, h4⟩
      · exact .inl h1
      · refine .inr ⟨pe, h1, h2, h3, fun w' hw' => h4 w' ?_⟩
        have : pe.ment t = false := by
          cases hm : pe.ment t with
          | false => rfl
          | true => exact absurd (List.any_eq_true.2 ⟨pe, h1, hm⟩) hn
        exact (promOk_upd this).1 hw'

theorem PrRel.add {pr : Option (List PrE)} {Pr : Prom} {env : Env} {w : World} (h : PrRel pr Pr env w) (i : Nat) (e : E) (ge : Option (E × Bool)) :
    PrRel (prAdd true i e ge pr) ((i, fun w' => gHolds ge env w → Holds1 e env w w') :: Pr) env w := by
  intro l hl p hp
  cases pr with
  | none => simp [prAdd] at hl
  | some l' =>
    simp only [prAdd, if_true] at hl
    have key : ∀ (pe : PrE), l = pe :: l' → pe.i = i → pe.pure = true → (∀ w', promOk pe env w w' → (gHolds ge env w → Holds1 e env w w')) →
        (∀ w', p.2 w') ∨ ∃ pe ∈ l, pe.i = p.1 ∧ pe.pure = true ∧ ∀ w', promOk pe env w w' → p.2 w' := by
      intro pe h1 h2 h3 h4
      subst h1
      rcases List.mem_cons.1 hp with rfl | hp
      · exact .inr ⟨pe, List.mem_cons_self .., h2, h3, h4⟩
      · rcases h l' rfl p hp with h1 | ⟨pe', h1, h2, h3, h4⟩
        · exact .inl h1
        · exact .inr ⟨pe', List.mem_cons_of_mem _ h1, h2, h3, h4⟩
    split at hl
    · split at hl
      · rename_i a hpure
        simp only [Option.some.injEq] at hl
        refine key ⟨i, a, 1, ge⟩ hl.symm rfl hpure (fun w' hw' hg => ?_)
        refine hw' ?_
        cases ge with
        | none => trivial
        | some p => exact hg
      · cases hl
    · split at hl
      · rename_i n a hpure
        simp only [Option.some.injEq] at hl
        refine key ⟨i, a, n, ge⟩ hl.symm rfl hpure (fun w' hw' hg => ?_)
        refine hw' ?_
        cases ge with
        | none => trivial
        | some p => exact hg
      · cases hl
    · rename_i h1 h2
      simp only [Option.some.injEq] at hl
      subst hl
      rcases List.mem_cons.1 hp with rfl | hp
      · refine .inl fun w' _ => ?_
        unfold Holds1
        cases e <;> first | trivial | (exact (h1 _ rfl).elim) | (exact (h2 _ _ rfl).elim)
      · exact h l' rfl p hp

theorem promsOk_mem {l : List PrE} {env : Env} {w w' : World} (h : promsOk l env w w') {pe : PrE} (hp : pe ∈ l) : promOk pe env w w' := by
  induction l with
  | nil => cases hp
  | cons x r ih =>
    rcases List.mem_cons.1 hp with rfl | hp
    · exact h.1
    · exact ih h.2 hp

theorem PrRel.keep {l : List PrE} {Pr : Prom} {env : Env} {w w' : World} (h : PrRel (some l) Pr env w) (bf : Nat → Nat → Bool) (i : Nat) (hp : promsOk (l.filter fun p => !bf p.i i) env w w') :
    (∀ p ∈ keep bf i Pr, p.2 w') ∧ PrRel (some (l.filter fun p => !bf p.i i)) (keep bf i Pr) env w' := by
  constructor
  · intro p hk
    simp only [VG.keep, List.mem_filter] at hk
    rcases h l rfl p hk.1 with h1 | ⟨pe, h1, h2, h3, h4⟩
    · exact h1 w'
    · refine h4 w' (promsOk_mem hp (List.mem_filter.2 ⟨h1, ?_⟩))
      rw [h2]; exact hk.2
  · intro l' hl' p hk
    simp only [Option.some.injEq] at hl'
    subst hl'
    simp only [VG.keep, List.mem_filter] at hk
    rcases h l rfl p hk.1 with h1 | ⟨pe, h1, h2, h3, h4⟩
    · exact .inl h1
    · have hm : pe ∈ l.filter fun p => !bf p.i i := List.mem_filter.2 ⟨h1, by rw [h2]; exact hk.2⟩
      exact .inr ⟨pe, hm, h2, h3, fun w'' hw'' => h4 w'' (promOk_trans h3 (promsOk_mem hp hm) hw'')⟩


/-! ### Effects -/
theorem setCell_isSome (w : World) (a b : Addr) (v : Value) : ((w.setCell a v).cell? b).isSome = (w.cell? b).isSome := by
  unfold World.cell? World.setCell
  simp only [Array.getElem?_modify]
  by_cases hab : a.block = b.block
  · rw [if_pos hab]
    cases hh : w.heap[b.block]? with
    | none => simp
    | some o =>
      cases o with
      | cells c e f =>
        simp only [Option.map_some]
        by_cases hb : b.spot.isSome = true
        · simp [hb]
        · simp only [hb, Bool.false_eq_true, if_false]
          by_cases ha : a.spot.isSome = true
          · simp [ha]
          · simp only [ha, Bool.false_eq_true, if_false, Array.getElem?_setIfInBounds]
            split
            · split
              · rename_i h1 h2; rw [h1] at h2; simp [h2]
              · rename_i h1 h2; rw [h1] at h2; simp [h2]
            · rfl
      | _ => simp
  · rw [if_neg hab]

theorem run_storeCells (a : Addr) : ∀ (vs : List Value) (i : Nat) (w : World), (∀ j, i ≤ j → j < i + vs.length → (w.cell? (a.add j)).isSome = true ∧ w.frozen? (a.add j) = false) → (∀ x ∈ vs, one1 x = true) →
    (storeCells a vs i).run P w = .ok () (putCells w a i vs)
  | [], i, w, _, _ => rfl
  | v :: r, i, w, h, h1 => by
    obtain ⟨h2, h3⟩ := h i (Nat.le_refl _) (by simp)
    obtain ⟨u, hu⟩ := Option.isSome_iff_exists.1 h2
    have hst : (store (a.add i) v).run P w = .ok () (w.setCell (a.add i) v) := by
      have := h1 v (List.mem_cons_self ..)
      unfold store
      cases v <;> first | (simp [one1] at this; done) | simp [Sem.run, hu, h3]
    rw [storeCells, run_bind, hst]
    simp only []
    rw [run_storeCells a r (i + 1) _ (fun j h4 h5 => ?_) (fun x hx => h1 x (List.mem_cons_of_mem _ hx))]
    · rfl
    · obtain ⟨h6, h7⟩ := h j (by omega) (by simp; omega)
      exact ⟨by rw [setCell_isSome]; exact h6, by rw [World.frozen?_setCell]; exact h7⟩

theorem run_storeAt {t : TypeId} {i : TypeInfo} (hi : P.info? t = some i) {a v : Value} {w : World} {K : World → Prop} (h : storeWp i.size a v w K) :
    ∃ w', (Instr.storeAt t a v).run P w = .ok () w' ∧ K w' := by
  obtain ⟨h1, h2, h3, h4, h5⟩ := h
  obtain ⟨ad, rfl⟩ := isP_cases h1
  refine ⟨_, ?_, h5⟩
  simp only [Instr.storeAt, Instr.sureAddr, run_bind, run_pure, storeVar, run_sizeOf hi]
  rw [if_neg (by simp [h2])]
  exact run_storeCells ad v.cells.toList 0 w (fun j _ hj => h3 j (by simpa [h2] using hj)) h4

theorem callable_run {f : FuncId} (h : callable P f = true) (args : Array Value) (w : World) : (callFunc f args).run P w = .ok (.enter f args) w := by
  unfold callable at h
  split at h
  · rename_i fn hf
    simp only [Bool.and_eq_true, Bool.not_eq_true'] at h
    have hb : fn.body.isNone = false := by
      cases hb : fn.body with
      | none => simp [hb] at h
      | some _ => rfl
    simp only [callFunc, run_bind, run_program, hf, h.1, hb, Bool.false_eq_true, if_false, run_pure]
  · cases h

theorem rds_ok {R : Operand → Option E} {ρ : Operand → Value} {env : Env} {w : World} : ∀ {l : List Operand} {es : List E}, rds R l = some es → (∀ x ex, R x = some ex → ρ x = ex.ev env w) → l.map ρ = evs es env w
  | [], es, h, _ => by simp only [rds, Option.some.injEq] at h; subst h; rfl
  | x :: r, es, h, hR => by
    simp only [rds] at h
    split at h
    · rename_i e l hx hl
      cases h
      simp only [List.map_cons, evs]
      rw [hR x e hx, rds_ok hl hR]
      rfl
    · cases h

theorem rdm_ok {R : Operand → Option E} {a : Act} {env : Env} {w : World} : ∀ {l : List Operand} {m : List (Nat × E)}, rdm R l = some m → (∀ x ex, R x = some ex → a.eval x = ex.ev env w) →
    ∀ x ∈ l, a.eval x = rhoOf m env w x
  | [], m, h, _, x, hx => by cases hx
  | y :: r, m, h, hR, x, hx => by
    simp only [rdm] at h
    split at h
    · cases h
    · rename_i l hl
      have ih := rdm_ok hl hR
      have hr : ∀ (m' : List (Nat × E)), (∀ t, (m'.find? (fun p => p.1 == t)).isSome = true → ∀ p, m'.find? (fun p => p.1 == t) = some p → a.eval (.tmp t) = p.2.ev env w) → True := fun _ _ => trivial
      cases y with
      | tmp t =>
        simp only at h
        split at h
        · rename_i e he
          simp only [Option.some.injEq] at h
          subst h
          have hte := hR (.tmp t) e he
          by_cases hxt : x = .tmp t
          · subst hxt
            simp only [rhoOf, List.find?_cons, beq_self_eq_true]
            exact hte
          · have hxr := (List.mem_cons.1 hx).resolve_left hxt
            have := ih x hxr
            cases x with
            | tmp t' =>
              have hne : (t == t') = false := by simp; exact fun e => hxt (by rw [e])
              simp only [rhoOf, List.find?_cons, hne] at this ⊢
              exact this
            | _ => exact this
        · cases h
      | const v => simp only [Option.some.injEq] at h; subst h; rcases List.mem_cons.1 hx with rfl | hx; exact rfl; exact ih x hx
      | global v => simp only [Option.some.injEq] at h; subst h; rcases List.mem_cons.1 hx with rfl | hx; exact rfl; exact ih x hx
      | func v => simp only [Option.some.injEq] at h; subst h; rcases List.mem_cons.1 hx with rfl | hx; exact rfl; exact ih x hx

theorem plainOp_sel {o : Op} (h : plainOp o = true) : ∀ cs b, o ≠ .select cs b := by
  intro cs b e; subst e; simp [plainOp] at h

theorem upon_of_uponK {o : Oper} {a : Act} {next : Act → World → Prop} {QQ : Exit → Act → World → Prop} {K : Value → World → Prop} {r : Result Next} (h : uponK P K r) (hK : ∀ v w', K v w' → next (a.put o.dst v) w') :
    o.upon P a next QQ r := by
  cases r with
  | ok n w =>
    cases n <;> simp only [uponK] at h <;> simp only [Oper.upon]
    · exact hK _ _ h
    · exact hK _ _ h
    · exact h.mono fun e w' ⟨v, he, hv⟩ => by subst he; exact hK _ _ hv
  | halt x w => simp only [uponK] at h

theorem effS_sound {R : Operand → Option E} {o : Oper} {pr : List PrE} {s s' : S} {Q : Exit → Env → World → Prop} {env : Env} {w : World} {a : Act} {K : Act → World → Prop} {QQ : Exit → Act → World → Prop}
    (h : effS P R o pr s = some s') (hwp : s'.wp P Q env w) (hR : ∀ x ex, R x = some ex → a.eval x = ex.ev env w)
    (hK : ∀ v w', promsOk pr env w w' → s.wp P Q (updo env o.dst v) w' → K (a.put o.dst v) w') : o.wp P a w K QQ := by
  obtain ⟨dst, op, ty, pos, af, gd⟩ := o
  unfold effS at h
  split at h
  case h_1 t x y heq =>
    simp only at heq hK
    subst heq
    split at h
    case h_1 i ae ee hi hx hy hd =>
      cases h
      simp only at hd
      subst hd
      simp only [S.wp] at hwp
      rw [← hR x ae hx, ← hR y ee hy] at hwp
      obtain ⟨w', hrun, h1, h2⟩ := run_storeAt hi hwp
      simp only [Oper.wp, execOp, run_bind, hrun, run_pure, Oper.upon]
      exact hK undef w' h1 h2
    case h_2 => cases h
  case h_2 f args at' heq =>
    simp only at heq hK
    subst heq
    split at h
    case isTrue hcal =>
      split at h
      case h_1 es hes =>
        cases h
        simp only [S.wp] at hwp
        have hmap := rds_ok hes hR
        have harr : args.map a.eval = (evs es env w).toArray := by
          rw [← hmap, ← Array.toList_map]
        simp only [Oper.wp, execOp, resolve, run_bind, run_pure, Act.eval, Deferred.ofValue, invoke]
        have e1 : (#[] ++ Array.map a.eval args) ++ #[] = (evs es env w).toArray := by rw [harr, Array.empty_append, Array.append_empty]
        rw [callable_run hcal, e1]
        simp only [Oper.upon]
        exact hwp.mono fun e w' ⟨v, he, h1, h2⟩ => by subst he; exact hK v w' h1 h2
      case h_2 => cases h
    case isFalse => cases h
  case h_3 =>
    split at h
    case isTrue hpl =>
      split at h
      case h_1 m hm =>
        cases h
        simp only [S.wp] at hwp
        have hev := rdm_ok hm hR
        have hsel := plainOp_sel hpl
        have e1 : execOp a.eval ⟨dst, op, ty, pos, af, gd⟩ = execOp (rhoOf m env w) ⟨dst, op, ty, pos, af, gd⟩ := execOp_congr _ hsel (fun x hx => hev x (by simpa using hx))
        have e2 : execOp (rhoOf m env w) ⟨dst, op, ty, pos, af, gd⟩ = execOp (rhoOf m env w) (opOf op ty) := rfl
        unfold Oper.wp
        rw [e1, e2]
        exact upon_of_uponK hwp (fun v w' hv => hK v w' hv.1 hv.2)
      case h_2 => cases h
    case isFalse => cases h

end
end Go.Proofs.Ytajkofndbeohpaa.VG
