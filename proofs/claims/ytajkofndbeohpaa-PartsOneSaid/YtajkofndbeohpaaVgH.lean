/-
  VG, part H: the translation of a whole function, and that it is sound.
-/
import Derived.Test.YtajkofndbeohpaaVgG
namespace Go.Proofs.Ytajkofndbeohpaa.VG
open Go
set_option linter.unusedSimpArgs false
set_option linter.unusedVariables false

section
variable {P : Program} {ops : Array Oper}

def QR (L : List Nat) (n : Nat) (K : Env → World → Prop) : Exit → Act → World → Prop
  | .normal, a, w => ∃ env, Agree L n env a ∧ K env w
  | _, _, _ => False

theorem mkChk_wp {e : E} {s : S} {Q : Exit → Env → World → Prop} {env : Env} {w : World} (h : (mkChk e s).wp P Q env w) : e.ok env w ∧ s.wp P Q env w := by
  unfold mkChk at h
  split at h
  · rename_i ht; exact ⟨triv_ok ht env w, h⟩
  · exact h

theorem mkChkO_wp {o : Op} {e : E} {s : S} {Q : Exit → Env → World → Prop} {env : Env} {w : World} (h : (mkChkO o e s).wp P Q env w) : (isMv o = true ∨ e.ok env w) ∧ s.wp P Q env w := by
  unfold mkChkO at h
  split at h
  · rename_i ht; exact ⟨.inl ht, h⟩
  · obtain ⟨h1, h2⟩ := mkChk_wp h; exact ⟨.inr h1, h2⟩

theorem matS_ok {n : Nat} {Q : Exit → Env → World → Prop} {w : World} {a : Act} {draw : Bool} {Pr : Prom} : ∀ (ts : List Nat) (st st' : St) (l : List (Nat × E)) (s : S) (env : Env), matS ts st = some (l, st') → (setsS l s).wp P Q env w → Inv st n env w a →
    (draw = true → PrRel st.pr Pr env w) → ∃ env', s.wp P Q env' w ∧ Inv st' n env' w a ∧ (draw = true → PrRel st'.pr Pr env' w) ∧ (∀ t ∈ st.lv, t ∈ st'.lv) ∧ (∀ e : E, (l.any fun p => e.ment p.1) = false → e.ev env' w = e.ev env w)
  | [], st, st', l, s, env, h, hwp, inv, hpr => by
    simp only [matS, Option.some.injEq, Prod.mk.injEq] at h
    obtain ⟨rfl, rfl⟩ := h
    exact ⟨env, hwp, inv, hpr, fun t ht => ht, fun e _ => rfl⟩
  | t :: r, st, st', l, s, env, h, hwp, inv, hpr => by
    simp only [matS] at h
    split at h
    case isTrue => exact matS_ok r st st' l s env h hwp inv hpr
    case isFalse hnl =>
    split at h
    case h_1 => cases h
    case h_2 e he =>
    split at h
    case h_1 => cases h
    case h_2 l1 st1 hm =>
    cases h
    have hval := rd_ok inv (sat_none a) (sat_none a) he
    simp only [setsS, S.wp] at hwp
    have inv' : Inv ⟨t :: st.lv, st.m.filter (fun en => !en.e.ment t && !en.ge.ment t), prCut t st.pr⟩ n (upd env t (e.ev env w)) w a := by
      refine ⟨⟨inv.ag.size, inv.ag.defers, fun t' ht' => ?_⟩, fun en hen => ?_⟩
      · by_cases h : t' = t
        · subst h; simp only [upd, if_pos]; exact hval
        · simp only [upd, if_neg h]
          exact inv.ag.eq t' ((List.mem_cons.1 ht').resolve_left h)
      · simp only [List.mem_filter, Bool.and_eq_true, Bool.not_eq_true'] at hen
        exact entOk_upd (inv.m en hen.1) hen.2.1 hen.2.2
    obtain ⟨env', h1, h2, h3, h4, h5⟩ := matS_ok r _ _ l1 s _ hm hwp inv' (fun hd => (hpr hd).cut t _)
    refine ⟨env', h1, h2, h3, fun t' ht' => h4 t' (List.mem_cons_of_mem _ ht'), fun e' he' => ?_⟩
    simp only [List.any_cons, Bool.or_eq_false_iff] at he'
    rw [h5 e' he'.2, E.ev_upd _ he'.1]

theorem go_sound {q : Nat → Bool} {bf : Nat → Nat → Bool} {draw mat : Bool} {n : Nat} {k : S} {L : List Nat} {Q : Exit → Env → World → Prop} (hd : draw = false → ∀ i j, bf i j = true) :
    ∀ (sched : Sched) (st : St) (s : S) (env : Env) (w : World) (a : Act) (Pr : Prom), go P ops q bf draw mat n k sched st = some s → s.wp P Q env w → Inv st n env w a →
      (draw = true → PrRel st.pr Pr env w) → (∀ t ∈ L, t ∈ st.lv) → wpS P ops (QR L n (k.wp P Q)) bf q sched Pr a w
  | .nil, st, s, env, w, a, Pr, hgo, hwp, inv, hpr, hL => by
    simp only [go, Option.some.injEq] at hgo
    subst hgo
    exact ⟨env, ⟨inv.ag.size, inv.ag.defers, fun t ht => inv.ag.eq t (hL t ht)⟩, hwp⟩
  | .alt x y, st, s, env, w, a, Pr, hgo, hwp, inv, hpr, hL => by
    simp only [go] at hgo
    split at hgo
    case h_2 => cases hgo
    case h_1 sa sb ha hb =>
    cases hgo
    exact ⟨go_sound hd x st sa env w a Pr ha hwp.1 inv hpr hL, go_sound hd y st sb env w a Pr hb hwp.2 inv hpr hL⟩
  | .op i rest, st, s, env, w, a, Pr, hgo, hwp, inv, hpr, hL => by
    simp only [go] at hgo
    split at hgo
    case h_1 => cases hgo
    case h_2 o ho =>
    split at hgo
    case h_1 => cases hgo
    case h_2 cur hcur =>
    split at hgo
    case h_1 => cases hgo
    case h_2 ge hge =>
    obtain ⟨hw1, hw2⟩ := wanted_iff inv hcur hge
    simp only [wpS, ho]
    by_cases hq : q i = true
    · simp only [hq, if_true] at hgo ⊢
      split at hgo
      case h_1 => cases hgo
      case h_2 e he =>
      have main : ∀ (s1 : S) , (isMv o.op = true ∨ (wrapG ge e).ok env w) → (wpS P ops (QR L n (k.wp P Q)) bf q rest ((i, fun w' => gHolds ge env w → Holds1 e env w w') :: Pr) (a.put o.dst ((wrapG ge e).ev env w)) w) →
          ∃ v S, S w ∧ YieldsIf P ops S o v a ∧ wpS P ops (QR L n (k.wp P Q)) bf q rest ((i, S) :: Pr) (a.put o.dst v) w := by
        intro s1 hok hrest
        refine ⟨_, _, fun _ => Holds1.refl e env w, ?_, hrest⟩
        by_cases hg : gHolds ge env w
        · refine .inl ⟨hw1.2 hg, fun w' hw' => ?_⟩
          rw [wrapG_ev_true hg]
          exact opE_run inv (hw2 hg) he (hok.imp id fun h => wrapG_ok h hg) w' (hw' hg)
        · refine .inr ⟨?_, wrapG_ev_false hg⟩
          cases hwd : Region.wanted o (yielded ops a.tmps) with
          | false => rfl
          | true => exact absurd (hw1.1 hwd) hg
      have hadd : draw = true → PrRel (prAdd draw i e ge st.pr) ((i, fun w' => gHolds ge env w → Holds1 e env w w') :: Pr) env w := fun hdr => by
        have := (hpr hdr).add i e ge
        rw [hdr]; exact this
      split at hgo
      case h_1 hdst =>
        split at hgo
        case h_2 => cases hgo
        case h_1 s1 hs1 =>
        cases hgo
        obtain ⟨hok, hwp1⟩ := mkChkO_wp hwp
        refine main s1 hok ?_
        rw [hdst]
        exact go_sound hd rest _ s1 env w a _ hs1 hwp1 ⟨inv.ag, inv.m⟩ hadd hL
      case h_2 t hdst =>
        split at hgo
        case isFalse => cases hgo
        case isTrue ht =>
        split at hgo
        case isTrue hl =>
          split at hgo
          case h_1 => cases hgo
          case h_2 lm st1 hmat =>
          split at hgo
          case isTrue => cases hgo
          case isFalse hment =>
          split at hgo
          case h_2 => cases hgo
          case h_1 s1 hs1 =>
          cases hgo
          obtain ⟨hok, hwp1⟩ := mkChkO_wp hwp
          refine main s1 hok ?_
          rw [hdst]
          have inv0 : Inv ⟨st.lv, st.m, prAdd draw i e ge st.pr⟩ n env w a := ⟨inv.ag, inv.m⟩
          obtain ⟨env', h1, h2, h3, h4, h5⟩ := matS_ok (draw := draw) _ _ _ _ _ _ hmat hwp1 inv0 hadd
          simp only [S.wp] at h1
          rw [h5 _ (by simpa using hment)] at h1
          exact go_sound hd rest _ s1 _ w _ _ hs1 h1 (h2.put_set ht _ _) (fun hdr => (h3 hdr).cut t _) (fun t' ht' => consO_mem.2 (.inr (h4 t' (hL t' ht'))))
        case isFalse hl =>
          split at hgo
          case isTrue => cases hgo
          case isFalse hgt =>
          split at hgo
          case h_2 => cases hgo
          case h_1 s1 hs1 =>
          cases hgo
          obtain ⟨hok, hwp1⟩ := mkChkO_wp hwp
          refine main s1 hok ?_
          rw [hdst]
          simp only [Bool.or_eq_true, not_or, Bool.not_eq_true] at hl
          refine go_sound hd rest _ s1 env w _ _ hs1 hwp1 (inv.put_new ht hl.1 rfl _ ?_) hadd hL
          have hts : t < a.tmps.size := by rw [inv.ag.size]; exact ht
          unfold EntOk
          cases cur with
          | none =>
            simp only [guardE, Option.some.injEq] at hge
            subst hge
            show (a.put (some t) _).tmps.getD t undef = _
            simp only [Act.put]
            rw [getD_set_self _ _ hts]
            rfl
          | some p =>
            obtain ⟨tg, want⟩ := p
            obtain ⟨eg, rfl, heg⟩ := guardE_ok inv hge
            have hne : tg ≠ t := by
              intro e'; subst e'; simp [gIs] at hgt
            simp only [Option.map_some, Option.getD_some]
            have e1 : (a.put (some t) ((wrapG (some (eg, want)) e).ev env w)).tmps.getD tg undef = a.tmps.getD tg undef := getD_set_other _ _ hne
            have e2 : (a.put (some t) ((wrapG (some (eg, want)) e).ev env w)).tmps.getD t undef = (wrapG (some (eg, want)) e).ev env w := getD_set_self _ _ hts
            rw [e1, e2]
            refine ⟨heg, ?_⟩
            simp only [wrapG, E.ev, heg]
    · have hq' : q i = false := by simpa using hq
      simp only [hq', Bool.false_eq_true, if_false] at hgo ⊢
      split at hgo
      case h_1 => cases hgo
      case h_2 l hl =>
      split at hgo
      case isFalse => cases hgo
      case isTrue hdn =>
      split at hgo
      case h_1 => cases hgo
      case h_2 s1 hs1 =>
      have hdt : ∀ t, o.dst = some t → t < n := fun t ht => by rw [ht] at hdn; simpa [dOk] using hdn
      have hL' : ∀ t ∈ L, t ∈ consO o.dst st.lv := fun t ht => by
        cases hdst : o.dst with
        | none => exact hL t ht
        | some t' => exact consO_mem.2 (.inr (hL t ht))
      -- what follows the effect
      have after : ∀ v w', promsOk (l.filter fun p => !bf p.i i) env w w' → s1.wp P Q (updo env o.dst v) w' →
          (∀ p ∈ keep bf i Pr, p.2 w') ∧ wpS P ops (QR L n (k.wp P Q)) bf q rest (keep bf i Pr) (a.put o.dst v) w' := by
        intro v w' hp hwp1
        by_cases hdr : draw = true
        · have h1 := hpr hdr
          rw [hl] at h1
          obtain ⟨h2, h3⟩ := h1.keep bf i hp
          refine ⟨h2, go_sound hd rest _ s1 _ w' _ _ hs1 hwp1 (inv.eff o.dst hdt v w' _) (fun _ => ?_) hL'⟩
          cases hdst : o.dst with
          | none => exact h3
          | some t => exact h3.cut t v
        · have hbf := hd (by simpa using hdr)
          have hk : keep bf i Pr = [] := by simp [keep, hbf]
          rw [hk]
          exact ⟨fun p hp => (by cases hp), go_sound hd rest _ s1 _ w' _ _ hs1 hwp1 (inv.eff o.dst hdt v w' _) (fun h => absurd h hdr) hL'⟩
      unfold wpOp
      simp only [ho]
      cases hwd : Region.wanted o (yielded ops a.tmps) with
      | true =>
        have hg := hw1.1 hwd
        cases ge with
        | none => exact .inl (effS_sound hgo hwp (fun x ex hx => rd_ok inv (hw2 hg) (sat_none a) hx) after)
        | some p =>
          obtain ⟨g, want⟩ := p
          simp only at hgo
          split at hgo
          case h_1 => cases hgo
          case h_2 s2 hs2 =>
          cases hgo
          exact .inl (effS_sound hs2 (hwp.1 hg) (fun x ex hx => rd_ok inv (hw2 hg) (sat_none a) hx) after)
      | false =>
        have hg : ¬ gHolds ge env w := fun h => by rw [hw1.2 h] at hwd; cases hwd
        cases ge with
        | none => exact absurd trivial hg
        | some p =>
          obtain ⟨g, want⟩ := p
          simp only at hgo
          split at hgo
          case h_1 => cases hgo
          case h_2 s2 hs2 =>
          cases hgo
          have hf : isBool (g.ev env w) want = false := by
            simp only [gHolds] at hg
            simpa using hg
          have h2 := hwp.2 hf
          have h3 : s1.wp P Q (updo env o.dst undef) w := by
            cases hdst : o.dst with
            | none => rw [hdst] at h2; exact h2
            | some t => rw [hdst] at h2; exact h2
          have hself : promsOk (l.filter fun p => !bf p.i i) env w w := by
            have : ∀ (l : List PrE), promsOk l env w w := fun l => by
              induction l with
              | nil => trivial
              | cons x r ih => exact ⟨fun _ j _ => rfl, ih⟩
            exact this _
          exact after undef w hself h3

/-! ### Which comes before which -/
def bfOf (bfl : List (List Nat)) (i j : Nat) : Bool := (bfl.getD j []).contains i

def bfStep (acc : List (List Nat)) (o : Oper) : List Nat :=
  o.after.toList.foldl (fun s e => if Region.binds .any e && decide (e.on < acc.length) then (e.on :: acc.getD e.on []).foldl (fun s x => if s.contains x then s else x :: s) s else s) []

def bfList (ops : List Oper) (acc : List (List Nat)) : List (List Nat) :=
  match ops with
  | [] => acc
  | o :: r => bfList r (acc ++ [bfStep acc o])

def bfChk (ops : Array Oper) (bfl : List (List Nat)) : Bool :=
  decide (bfl.length ≤ ops.size) && (List.range bfl.length).all fun j => match ops[j]? with
    | none => false
    | some oj => (bfl.getD j []).all fun i => oj.after.any fun e => Region.binds .any e && decide (e.on < j) && (e.on == i || bfOf bfl i e.on)

theorem bfChk_ok {bfl : List (List Nat)} (h : bfChk ops bfl = true) : BfOk ops (bfOf bfl) := by
  intro i j hij
  simp only [bfChk, Bool.and_eq_true, decide_eq_true_eq, List.all_eq_true, List.mem_range] at h
  have hj : j < bfl.length := by
    rcases Nat.lt_or_ge j bfl.length with h' | h'
    · exact h'
    · have h0 : bfOf bfl i j = false := by simp [bfOf, h']
      rw [h0] at hij; cases hij
  have h1 := h.2 j hj
  cases ho : ops[j]? with
  | none => simp only [ho] at h1; cases h1
  | some oj =>
    simp only [ho, List.all_eq_true] at h1
    have h2 := h1 i (by simpa [bfOf] using hij)
    obtain ⟨e, he, hb⟩ := Array.any_eq_true'.1 h2
    simp only [Bool.and_eq_true, Bool.or_eq_true, beq_iff_eq, decide_eq_true_eq] at hb
    exact ⟨oj, rfl, e, he, hb.1.1, hb.1.2, hb.2⟩

def altOf : List Sched → Sched
  | [] => .nil
  | [s] => s
  | s :: r => .alt s (altOf r)

def Sched.hasAlt : Sched → Bool
  | .nil => false
  | .op _ r => r.hasAlt
  | .alt _ _ => true

def sch (ops : Array Oper) (q : Nat → Bool) : Nat → Array Bool → Sched
  | 0, _ => .nil
  | f + 1, listed =>
    let rs := Region.ready .any ops listed
    match rs.find? fun i => q i && Region.free .any ops listed i with
    | some i => .op i (sch ops q f (listed.setIfInBounds i true))
    | none => altOf (rs.map fun i => .op i (sch ops q f (listed.setIfInBounds i true)))

def qOf (P : Program) (ops : Array Oper) (i : Nat) : Bool :=
  match ops[i]? with
  | some o => quietOp P o.op
  | none => false

def matOf (P : Program) (ops : Array Oper) : Bool := ops.any fun o => !quietOp P o.op

def compD (P : Program) (L : List Nat) (n : Nat) (ops : Array Oper) (sched : Sched) (k : S) : Option S :=
  if P.follows .mixedOrders && bfChk ops (bfList ops.toList []) && Region.noSelect ops && chkSched ops (qOf P ops) false sched ops.size (Array.replicate ops.size false) then
    match go P ops (qOf P ops) (bfOf (bfList ops.toList [])) true (matOf P ops) n k sched ⟨L, [], some []⟩ with
    | some s => some (.draw s)
    | none => none
  else none

def compR (P : Program) (L : List Nat) (n : Nat) (ops : Array Oper) (draw : Bool) (k : S) : Option S :=
  if draw then
    if (sch ops (qOf P ops) ops.size (Array.replicate ops.size false)).hasAlt then
      match compD P L n ops (sch ops (qOf P ops) ops.size (Array.replicate ops.size false)) .nil with
      | some s => some (.sq s k)
      | none => none
    else compD P L n ops (sch ops (qOf P ops) ops.size (Array.replicate ops.size false)) k
  else go P ops (qOf P ops) (fun _ _ => true) false (matOf P ops) n k (schedOf (List.range ops.size)) ⟨L, [], some []⟩

theorem compD_sound {L : List Nat} {n id : Nat} {sched : Sched} {k s : S} {Q : Exit → Env → World → Prop} {env : Env} {w : World} {a : Act} (h : compD P L n ops sched k = some s) (hwp : s.wp P Q env w) (hag : Agree L n env a) :
    (Code.region id ops true).wp P (QR L n (k.wp P Q)) a w := by
  unfold compD at h
  split at h
  case isFalse => cases h
  case isTrue hc =>
  simp only [Bool.and_eq_true] at hc
  obtain ⟨⟨⟨h1, h2⟩, h3⟩, h5⟩ := hc
  split at h
  case h_2 => cases h
  case h_1 s1 hs1 =>
  cases h
  refine region_draw h1 (bfChk_ok h2) h3 (fun _ _ _ h => h) h5 ?_
  have inv' : Inv ⟨L, [], some []⟩ n env w.drew a := ⟨hag, fun _ h => by cases h⟩
  exact go_sound (fun h => by cases h) _ _ s1 env w.drew a [] hs1 hwp inv' (fun _ l _ p hp => by cases hp) (fun t ht => ht)

theorem compR_sound {L : List Nat} {n id : Nat} {draw : Bool} {k s : S} {Q : Exit → Env → World → Prop} {env : Env} {w : World} {a : Act} (h : compR P L n ops draw k = some s) (hwp : s.wp P Q env w) (hag : Agree L n env a) :
    (Code.region id ops draw).wp P (QR L n (k.wp P Q)) a w := by
  have inv : Inv ⟨L, [], some []⟩ n env w a := ⟨hag, fun _ h => by cases h⟩
  unfold compR at h
  cases draw with
  | true =>
    simp only [if_true] at h
    split at h
    case isTrue =>
      split at h
      case h_2 => cases h
      case h_1 s1 hs1 =>
      cases h
      simp only [S.wp] at hwp
      exact compD_sound (Q := thn (k.wp P Q) Q) (id := id) hs1 hwp hag
    case isFalse => exact compD_sound h hwp hag
  | false =>
    simp only [Bool.false_eq_true, if_false] at h
    exact region_plain (go_sound (fun _ _ _ => rfl) _ _ s env w a [] h hwp inv (fun h => by cases h) (fun t ht => ht))

/-! ### Code -/
def condE (L : List Nat) : Operand → Option E
  | .tmp t => if L.contains t then some (.vr t) else none
  | .const v => some (.cn v)
  | _ => none

def comp (P : Program) (L : List Nat) (n : Nat) : Code → S → Option S
  | .skip, k => some k
  | .label _, k => some k
  | .region _ ops draw, k => compR P L n ops draw k
  | .seq a b, k => match comp P L n b k with
    | some sb => comp P L n a sb
    | none => none
  | .cond c x y, k => match condE L c, comp P L n x .nil, comp P L n y .nil with
    | some e, some sx, some sy => some (.ite e sx sy k)
    | _, _, _ => none
  | .block id c, k => match comp P L n c .nil with
    | some s => some (.blk id s k)
    | none => none
  | .loop c, _ => match comp P L n c .nil with
    | some s => some (.loop s)
    | none => none
  | .exit id, _ => some (.exit id)
  | .ret, _ => some .ret
  | _, _ => none

def LQ (L : List Nat) (n : Nat) (T : Exit → Env → World → Prop) : Exit → Act → World → Prop := fun x a w => ∃ env, Agree L n env a ∧ T x env w

theorem wp_loop_g {Q : Exit → Act → World → Prop} {c : Code} (I : Nat → Act → World → Prop) {n : Nat} {a : Act} {w : World} (h₀ : I n a w)
    (round : ∀ n a w, I n a w → c.wp P (Exit.then (fun a' w' => ∃ m, m < n ∧ I m a' w') Q) a w) : (Code.loop c).wp P Q a w := by
  intro b k cs
  have key : ∀ n a w, I n a w →
      ∃ e a' w', Q e a' w' ∧ Arrives P (lone (b.at a (.code c :: .inLoop c :: k)) cs w) b k cs e a' w' := by
    intro n
    induction n using Nat.strongRecOn with
    | _ n ih =>
      intro a w hI
      obtain ⟨e, a₁, w₁, hq, harr⟩ := round n a w hI b (.inLoop c :: k) cs
      cases e with
      | normal =>
        obtain ⟨m, hlt, hI₁⟩ := hq
        obtain ⟨e₂, a₂, w₂, hq₂, harr₂⟩ := ih m hlt a₁ w₁ hI₁
        exact ⟨e₂, a₂, w₂, hq₂, .of_steps (Steps.trans harr (.one step_inLoop)) harr₂⟩
      | exit id => exact ⟨_, a₁, w₁, hq, .pass (x := .inLoop c) rfl (fun _ _ => .inl (by simp)) harr⟩
      | goto l => exact ⟨_, a₁, w₁, hq, .pass (x := .inLoop c) rfl (fun _ _ => .inl (by simp)) harr⟩
      | ret => exact ⟨_, a₁, w₁, hq, .pass (x := .inLoop c) rfl (fun _ _ => .inl (by simp)) harr⟩
      | panic ch => exact ⟨_, a₁, w₁, hq, .pass (x := .inLoop c) rfl (fun _ _ => .inl (by simp)) harr⟩
      | outgrown => exact ⟨_, a₁, w₁, hq, .pass (x := .inLoop c) rfl (fun _ _ => .inl (by simp)) harr⟩
  obtain ⟨e, a', w', hq, harr⟩ := key n a w h₀
  exact ⟨e, a', w', hq, .of_steps (.one step_loop) harr⟩

theorem condE_ok {L : List Nat} {n : Nat} {c : Operand} {e : E} {env : Env} {w : World} {a : Act} (h : condE L c = some e) (hag : Agree L n env a) : a.eval c = e.ev env w := by
  cases c with
  | tmp t =>
    simp only [condE] at h
    split at h
    · cases h; exact hag.eq t (by rename_i h; simpa using h)
    · cases h
  | const v => simp only [condE, Option.some.injEq] at h; subst h; rfl
  | global _ => simp [condE] at h
  | func _ => simp [condE] at h

theorem comp_sound {L : List Nat} {n : Nat} : ∀ (c : Code) (k s : S) (Q : Exit → Env → World → Prop) (env : Env) (w : World) (a : Act), comp P L n c k = some s → s.wp P Q env w → Agree L n env a →
    c.wp P (LQ L n (thn (k.wp P Q) Q)) a w := by
  intro c
  induction c with
  | skip =>
    intro k s Q env w a h hwp hag
    simp only [comp, Option.some.injEq] at h
    subst h
    exact wp_skip ⟨env, hag, hwp⟩
  | label l =>
    intro k s Q env w a h hwp hag
    simp only [comp, Option.some.injEq] at h
    subst h
    exact wp_label ⟨env, hag, hwp⟩
  | region id ops draw =>
    intro k s Q env w a h hwp hag
    simp only [comp] at h
    refine wp_mono (compR_sound h hwp hag) fun e a' w' hq => ?_
    cases e with
    | normal => exact hq
    | _ => exact hq.elim
  | seq x y ihx ihy =>
    intro k s Q env w a h hwp hag
    simp only [comp] at h
    split at h
    case h_2 => cases h
    case h_1 sb hsb =>
    refine wp_seq (wp_mono (ihx sb s Q env w a h hwp hag) fun e a' w' hq => ?_)
    obtain ⟨env', hag', hq⟩ := hq
    cases e with
    | normal => exact ihy k sb Q env' w' a' hsb hq hag'
    | _ => exact ⟨env', hag', hq⟩
  | cond c x y ihx ihy =>
    intro k s Q env w a h hwp hag
    simp only [comp] at h
    split at h
    case h_2 => cases h
    case h_1 e sx sy he hsx hsy =>
    cases h
    obtain ⟨hb, ht, hf⟩ := hwp
    obtain ⟨b, hb⟩ := isB_cases hb
    have hev := (condE_ok (w := w) he hag).trans hb
    have fin : ∀ (e : Exit) (a' : Act) (w' : World), LQ L n (thn (S.nil.wp P (thn (k.wp P Q) Q)) (thn (k.wp P Q) Q)) e a' w' → LQ L n (thn (k.wp P Q) Q) e a' w' := by
      intro e a' w' hq
      obtain ⟨env', hag', hq⟩ := hq
      cases e <;> exact ⟨env', hag', hq⟩
    cases b with
    | true => exact wp_cond_true hev (wp_mono (ihx .nil sx _ env w a hsx (ht (by rw [hb]; rfl)) hag) fin)
    | false => exact wp_cond_false hev (wp_mono (ihy .nil sy _ env w a hsy (hf (by rw [hb]; rfl)) hag) fin)
  | block id c ih =>
    intro k s Q env w a h hwp hag
    simp only [comp] at h
    split at h
    case h_2 => cases h
    case h_1 s1 hs1 =>
    cases h
    refine wp_block (wp_mono (ih .nil s1 _ env w a hs1 hwp hag) fun e a' w' hq => ?_)
    obtain ⟨env', hag', hq⟩ := hq
    cases e with
    | normal => exact ⟨env', hag', hq⟩
    | exit i =>
      simp only [thn, inBlk] at hq
      simp only [Exit.inBlock]
      split
      · rename_i h; simp only [h, if_true] at hq; exact ⟨env', hag', hq⟩
      · rename_i h; simp only [h, if_false] at hq; exact ⟨env', hag', hq⟩
    | _ => exact ⟨env', hag', hq⟩
  | loop c ih =>
    intro k s Q env w a h hwp hag
    simp only [comp] at h
    split at h
    case h_2 => cases h
    case h_1 s1 hs1 =>
    cases h
    obtain ⟨I, m, hI, hround⟩ := hwp
    refine wp_loop_g (fun m a w => ∃ env, Agree L n env a ∧ I m env w) (n := m) ⟨env, hag, hI⟩ ?_
    rintro m a w ⟨env, hag, hI⟩
    refine wp_mono (ih .nil s1 _ env w a hs1 (hround m env w hI) hag) fun e a' w' hq => ?_
    obtain ⟨env', hag', hq⟩ := hq
    cases e with
    | normal => obtain ⟨m', hlt, hI'⟩ := hq; exact ⟨m', hlt, env', hag', hI'⟩
    | _ => exact ⟨env', hag', hq⟩
  | exit id =>
    intro k s Q env w a h hwp hag
    simp only [comp, Option.some.injEq] at h
    subst h
    exact wp_exit ⟨env, hag, hwp⟩
  | ret =>
    intro k s Q env w a h hwp hag
    simp only [comp, Option.some.injEq] at h
    subst h
    exact wp_ret ⟨env, hag, hwp⟩
  | _ => intro k s Q env w a h; simp [comp] at h

/-! ### A function -/
def regionUses : List Oper → List Nat → List Nat
  | [], _ => []
  | o :: r, dd => (opTmps o.op.operands.toList).filter (fun t => !dd.contains t) ++ regionUses r (o.dst.toList ++ dd)

def codeUses : Code → List Nat
  | .region _ ops _ => regionUses ops.toList []
  | .seq a b => codeUses a ++ codeUses b
  | .cond c a b => opTmps [c] ++ codeUses a ++ codeUses b
  | .block _ a => codeUses a
  | .loop a => codeUses a
  | _ => []

def resE (P : Program) (L : List Nat) : List ResultVar → Option (List E)
  | [] => some []
  | .tmp t :: r => match resE P L r with
    | some l => if L.contains t then some (.vr t :: l) else none
    | none => none
  | .cell a t :: r => match resE P L r, P.underlying t, P.info? t with
    | some l, some d, some i => if L.contains a then (if isAggD d then some (.ldn i.size (.vr a) :: l) else some (.ld (.vr a) :: l)) else none
    | _, _, _ => none

def resUses : List ResultVar → List Nat
  | [] => []
  | .tmp t :: r => t :: resUses r
  | .cell a _ :: r => a :: resUses r

/-- Several results are one tuple. -/
def pack : List Value → Value
  | [v] => v
  | l => .tuple l.toArray

structure Fc where
  n : Nat
  s : S
  es : List E

def dedup : List Nat → List Nat → List Nat
  | [], acc => acc
  | x :: r, acc => if acc.contains x then dedup r acc else dedup r (x :: acc)

def compF (P : Program) (f : FuncId) : Option Fc :=
  match P.funcs[f]? with
  | none => none
  | some fn => match fn.body with
    | none => none
    | some c =>
      let L := dedup (codeUses c ++ resUses fn.results.toList) []
      match comp P L fn.ntmps c .nil, resE P L fn.results.toList with
      | some s, some es => some ⟨fn.ntmps, s, es⟩
      | _, _ => none

def env0 (args : List Value) : Env := fun t => args.getD t undef

def oks : List E → Env → World → Prop
  | [], _, _ => True
  | e :: r, env, w => e.ok env w ∧ oks r env w

def Ret (R : Value → World → Prop) : Ending → World → Prop := fun e w => ∃ v, e = .returned v ∧ R v w

def postF (es : List E) (R : Value → World → Prop) : Exit → Env → World → Prop
  | .normal, env, w => oks es env w ∧ R (pack (evs es env w)) w
  | .ret, env, w => oks es env w ∧ R (pack (evs es env w)) w
  | _, _, _ => False

def resSem (tmps : Array Value) : ResultVar → Sem Value
  | .tmp t => pure (tmps.getD t undef)
  | .cell a t => do loadVar t (← asAddr (tmps.getD a undef))

theorem run_resList {L : List Nat} {n : Nat} {env : Env} {a : Act} (hag : Agree L n env a) (w : World) : ∀ (rs : List ResultVar) (es : List E) (acc : Array Value), resE P L rs = some es → oks es env w →
    (rs.foldlM (fun (acc : Array Value) r => do let v ← resSem a.tmps r; pure (acc.push v) : Array Value → ResultVar → Sem (Array Value)) acc).run P w = .ok (acc ++ (evs es env w).toArray) w
  | [], es, acc, h, _ => by simp only [resE, Option.some.injEq] at h; subst h; simp [run_pure, evs]
  | .tmp t :: r, es, acc, h, hok => by
    simp only [resE] at h
    split at h
    case h_2 => cases h
    case h_1 l hl =>
    split at h
    case isFalse => cases h
    case isTrue hc =>
    cases h
    have := hag.eq t (by simpa using hc)
    have h1 : (resSem a.tmps (.tmp t)).run P w = .ok (env t) w := by simp only [resSem, this, run_pure]
    simp only [List.foldlM_cons, run_bind, h1, run_pure]
    rw [run_resList hag w r l _ hl hok.2]
    simp [evs, E.ev]
  | .cell x t :: r, es, acc, h, hok => by
    simp only [resE] at h
    split at h
    case h_2 => cases h
    case h_1 l d i hl hd hi =>
    split at h
    case isFalse => cases h
    case isTrue hc =>
    have hx := hag.eq x (by simpa using hc)
    split at h
    case isTrue hagg =>
      cases h
      obtain ⟨⟨h1, h2⟩, hok⟩ := hok
      obtain ⟨ad, ha⟩ := isP_cases h1
      simp only [ha, asA] at h2
      simp only [E.ev] at ha
      have h1 : (resSem a.tmps (.cell x t)).run P w = .ok (.agg (cellsFrom w ad 0 i.size).toArray) w := by
        simp only [resSem, run_bind, hx, ha, asAddr, run_pure, loadVar, run_isAgg hd, hagg, if_true, run_sizeOf hi, loadCells]
        rw [run_loadCellsFrom ad w w i.size 0 #[] (fun j _ hj => ⟨h2 j (by omega), rfl⟩)]
        simp [run_pure]
      simp only [List.foldlM_cons, run_bind, h1, run_pure]
      rw [run_resList hag w r l _ hl hok]
      simp [evs, E.ev, ha, asA]
    case isFalse hagg =>
      cases h
      obtain ⟨⟨h1, h2⟩, hok⟩ := hok
      obtain ⟨ad, ha⟩ := isP_cases h1
      simp only [ha, asA] at h2
      obtain ⟨v, hv⟩ := Option.isSome_iff_exists.1 h2
      simp only [E.ev] at ha
      have h1 : (resSem a.tmps (.cell x t)).run P w = .ok v w := by
        simp only [resSem, run_bind, hx, ha, asAddr, run_pure, loadVar, run_isAgg hd, hagg, Bool.false_eq_true, if_false, run_load hv]
      simp only [List.foldlM_cons, run_bind, h1, run_pure]
      rw [run_resList hag w r l _ hl hok]
      simp [evs, E.ev, ha, asA, hv]

theorem run_results {fn : Func} {L : List Nat} {n : Nat} {env : Env} {a : Act} (hag : Agree L n env a) (w : World) {es : List E} (h : resE P L fn.results.toList = some es) (hok : oks es env w) :
    (results fn a.tmps).run P w = .ok (pack (evs es env w)) w := by
  have h1 : (fn.results.mapM (resSem a.tmps)).run P w = .ok (evs es env w).toArray w := by
    rw [Array.mapM_eq_foldlM, ← Array.foldlM_toList]
    have := run_resList hag w fn.results.toList es #[] h hok
    rw [Array.empty_append] at this
    rw [← this]
    congr 2
  have h2 : results fn a.tmps = (do let vs ← fn.results.mapM (resSem a.tmps); pure (if h : vs.size = 1 then vs[0] else .tuple vs)) := by
    unfold results
    congr 2
  rw [h2, run_bind, h1]
  simp only [run_pure]
  congr 1
  generalize evs es env w = l
  match l with
  | [] => rfl
  | [v] => rfl
  | _ :: _ :: _ => rfl

/-- WHAT A FUNCTION'S TRANSLATION COMES TO, THE CALL COMES TO. -/
theorem F_sound {f : FuncId} {fc : Fc} {args : List Value} {w : World} {R : Value → World → Prop} (hf : compF P f = some fc) (hn : args.length ≤ fc.n) (h : fc.s.wp P (postF fc.es R) (env0 args) w) :
    Calls P f args.toArray w (Ret R) := by
  unfold compF at hf
  split at hf
  case h_1 => cases hf
  case h_2 fn hfn =>
  split at hf
  case h_1 => cases hf
  case h_2 c hc =>
  simp only at hf
  split at hf
  case h_2 => cases hf
  case h_1 s es hs hes =>
  cases hf
  simp only at hn h
  refine calls_of_wp hfn hc ?_
  have hag : Agree (dedup (codeUses c ++ resUses fn.results.toList) []) fn.ntmps (env0 args) { tmps := args.toArray ++ Array.replicate (fn.ntmps - args.toArray.size) undef, defers := [] } := by
    refine ⟨by simp; omega, rfl, fun t _ => ?_⟩
    simp only [env0, Array.getD_eq_getD_getElem?, List.getD_eq_getElem?_getD]
    by_cases ht : t < args.length
    · simp [Array.getElem?_append, ht]
    · simp only [Array.getElem?_append, List.size_toArray, ht, if_false, List.getElem?_eq_none (Nat.le_of_not_lt ht), Option.getD_none]
      by_cases h2 : t - args.length < fn.ntmps - args.length
      · simp [h2]
      · simp [h2]
  refine wp_mono (comp_sound c .nil s _ _ _ _ hs h hag) fun e a' w' hq => ?_
  obtain ⟨env', hag', hq⟩ := hq
  cases e with
  | normal => exact ⟨hag'.defers, _, run_results hag' w' hes hq.1, _, rfl, hq.2⟩
  | ret => exact ⟨hag'.defers, _, run_results hag' w' hes hq.1, _, rfl, hq.2⟩
  | _ => exact hq.elim

end
end Go.Proofs.Ytajkofndbeohpaa.VG
