/-
  VG, part D: expressions and statements, what they come to; the translation of a function's code into them.
-/
import Derived.Test.YtajkofndbeohpaaVgC
namespace Go.Proofs.Ytajkofndbeohpaa.VG
open Go
set_option linter.unusedSimpArgs false
set_option linter.unusedVariables false

abbrev Env := Nat → Value
def upd (env : Env) (x : Nat) (v : Value) : Env := fun y => if y = x then v else env y

inductive E where
  | vr (x : Nat) | cn (val : Value) | un (n : U) (a : E) | bn (n : B) (a b : E)
  | ld (a : E) | ldn (n : Nat) (a : E) | pk (c a b : E) | gd (g : E) (want : Bool) (e : E)
  | and (a b : E) | or (a b : E)
  | sl (size : Nat) (hasHi : Bool) (x lo hi : E)
  | bd (off n : Nat) (part rest : E)

def isBool : Value → Bool → Bool
  | .bool b, want => b == want
  | _, _ => false

def cellsFrom (w : World) (a : Addr) (i : Nat) : Nat → List Value
  | 0 => []
  | n + 1 => (w.cell? (a.add i)).getD undef :: cellsFrom w a (i + 1) n

def putAt (cs : Array Value) (off : Nat) : List Value → Array Value
  | [] => cs
  | v :: r => putAt (cs.setIfInBounds off v) (off + 1) r

def slVal (size : Nat) (x : Value) (l h : Nat) : Value := .slice (if slC x = l then slA x else (slA x).map (·.add (l * size))) (h - l) (slC x - l)

def E.ev : E → Env → World → Value
  | .vr x, env, _ => env x
  | .cn val, _, _ => val
  | .un n a, env, w => n.val (a.ev env w)
  | .bn n a b, env, w => n.val (a.ev env w) (b.ev env w)
  | .ld a, env, w => (w.cell? (asA (a.ev env w))).getD undef
  | .ldn n a, env, w => .agg (cellsFrom w (asA (a.ev env w)) 0 n).toArray
  | .pk c a b, env, w => if asB (c.ev env w) = true then a.ev env w else b.ev env w
  | .gd g want e, env, w => if isBool (g.ev env w) want = true then e.ev env w else undef
  | .and a b, env, w => .bool (asB (a.ev env w) && asB (b.ev env w))
  | .or a b, env, w => .bool (asB (a.ev env w) || asB (b.ev env w))
  | .sl size hasHi x lo hi, env, w => slVal size (x.ev env w) (asI (lo.ev env w)).toNat (if hasHi = true then (asI (hi.ev env w)).toNat else slL (x.ev env w))
  | .bd off _ part rest, env, w => .agg (putAt (agC (rest.ev env w)) off (part.ev env w).cells.toList)

/-- When the topmost node yields what it says. -/
def E.ok : E → Env → World → Prop
  | .un n a, env, w => n.ok (a.ev env w)
  | .bn n a b, env, w => n.ok (a.ev env w) (b.ev env w)
  | .ld a, env, w => isP (a.ev env w) ∧ (w.cell? (asA (a.ev env w))).isSome = true
  | .ldn n a, env, w => isP (a.ev env w) ∧ ∀ j, j < n → (w.cell? ((asA (a.ev env w)).add j)).isSome = true
  | .pk c _ _, env, w => isB (c.ev env w)
  | .and a _, env, w => isB (a.ev env w)
  | .or a _, env, w => isB (a.ev env w)
  | .gd g want e, env, w => isBool (g.ev env w) want = true → e.ok env w
  | .sl _ hasHi x lo hi, env, w => (isS (x.ev env w) ∧ isInt (lo.ev env w)) ∧
      (hasHi = true → isInt (hi.ev env w) ∧ 0 ≤ asI (hi.ev env w) ∧ asI (hi.ev env w) ≤ slC (x.ev env w)) ∧
      0 ≤ asI (lo.ev env w) ∧ asI (lo.ev env w) ≤ (if hasHi = true then ((asI (hi.ev env w)).toNat : Int) else slL (x.ev env w))
  | .bd off n part rest, env, w => ((part.ev env w).cells.size = n ∧ off + n ≤ (agC (rest.ev env w)).size) ∧ rest.ok env w
  | _, _, _ => True

def E.pure : E → Bool
  | .vr _ | .cn _ => true
  | .un _ a => a.pure
  | .bn _ a b => a.pure && b.pure
  | .ld _ | .ldn _ _ => false
  | .pk c a b => c.pure && a.pure && b.pure
  | .gd g _ e => g.pure && e.pure
  | .and a b | .or a b => a.pure && b.pure
  | .sl _ _ x lo hi => x.pure && lo.pure && hi.pure
  | .bd _ _ p r => p.pure && r.pure

def E.ment (t : Nat) : E → Bool
  | .vr x => x == t
  | .cn _ => false
  | .un _ a => a.ment t
  | .bn _ a b => a.ment t || b.ment t
  | .ld a | .ldn _ a => a.ment t
  | .pk c a b => c.ment t || a.ment t || b.ment t
  | .gd g _ e => g.ment t || e.ment t
  | .and a b | .or a b => a.ment t || b.ment t
  | .sl _ _ x lo hi => x.ment t || lo.ment t || hi.ment t
  | .bd _ _ p r => p.ment t || r.ment t

theorem E.ev_upd {t : Nat} {v : Value} {env : Env} {w : World} : ∀ (e : E), e.ment t = false → e.ev (upd env t v) w = e.ev env w
  | .vr x, h => by
    have : x ≠ t := by simpa [E.ment] using h
    simp [E.ev, upd, this]
  | .cn _, _ => rfl
  | .un _ a, h => by simp only [E.ev, ev_upd a h]
  | .bn _ a b, h => by simp only [E.ment, Bool.or_eq_false_iff] at h; simp only [E.ev, ev_upd a h.1, ev_upd b h.2]
  | .ld a, h => by simp only [E.ev, ev_upd a h]
  | .ldn _ a, h => by simp only [E.ev, ev_upd a h]
  | .pk c a b, h => by simp only [E.ment, Bool.or_eq_false_iff] at h; simp only [E.ev, ev_upd c h.1.1, ev_upd a h.1.2, ev_upd b h.2]
  | .gd g _ e, h => by simp only [E.ment, Bool.or_eq_false_iff] at h; simp only [E.ev, ev_upd g h.1, ev_upd e h.2]
  | .and a b, h => by simp only [E.ment, Bool.or_eq_false_iff] at h; simp only [E.ev, ev_upd a h.1, ev_upd b h.2]
  | .or a b, h => by simp only [E.ment, Bool.or_eq_false_iff] at h; simp only [E.ev, ev_upd a h.1, ev_upd b h.2]
  | .sl _ _ x lo hi, h => by simp only [E.ment, Bool.or_eq_false_iff] at h; simp only [E.ev, ev_upd x h.1.1, ev_upd lo h.1.2, ev_upd hi h.2]
  | .bd _ _ p r, h => by simp only [E.ment, Bool.or_eq_false_iff] at h; simp only [E.ev, ev_upd p h.1, ev_upd r h.2]

theorem E.ev_pure {env : Env} {w w' : World} : ∀ (e : E), e.pure = true → e.ev env w' = e.ev env w
  | .vr x, h => rfl
  | .cn _, _ => rfl
  | .un _ a, h => by simp only [E.ev, ev_pure (w := w) (w' := w') a h]
  | .bn _ a b, h => by simp only [E.pure, Bool.and_eq_true] at h; simp only [E.ev, ev_pure (w := w) (w' := w') a h.1, ev_pure (w := w) (w' := w') b h.2]
  | .ld a, h => by simp [E.pure] at h
  | .ldn _ a, h => by simp [E.pure] at h
  | .pk c a b, h => by simp only [E.pure, Bool.and_eq_true] at h; simp only [E.ev, ev_pure (w := w) (w' := w') c h.1.1, ev_pure (w := w) (w' := w') a h.1.2, ev_pure (w := w) (w' := w') b h.2]
  | .gd g _ e, h => by simp only [E.pure, Bool.and_eq_true] at h; simp only [E.ev, ev_pure (w := w) (w' := w') g h.1, ev_pure (w := w) (w' := w') e h.2]
  | .and a b, h => by simp only [E.pure, Bool.and_eq_true] at h; simp only [E.ev, ev_pure (w := w) (w' := w') a h.1, ev_pure (w := w) (w' := w') b h.2]
  | .or a b, h => by simp only [E.pure, Bool.and_eq_true] at h; simp only [E.ev, ev_pure (w := w) (w' := w') a h.1, ev_pure (w := w) (w' := w') b h.2]
  | .sl _ _ x lo hi, h => by simp only [E.pure, Bool.and_eq_true] at h; simp only [E.ev, ev_pure (w := w) (w' := w') x h.1.1, ev_pure (w := w) (w' := w') lo h.1.2, ev_pure (w := w) (w' := w') hi h.2]
  | .bd _ _ p r, h => by simp only [E.pure, Bool.and_eq_true] at h; simp only [E.ev, ev_pure (w := w) (w' := w') p h.1, ev_pure (w := w) (w' := w') r h.2]

/-! ### What is known of an expression without looking at the state -/
def boolE : E → Bool
  | .cn (.bool _) => true
  | .un .not _ | .un (.pnil _) _ | .un (.snil _) _ => true
  | .bn (.cm ..) _ _ | .bn (.eqb _) _ _ | .bn (.eqs _) _ _ => true
  | .and _ _ | .or _ _ => true
  | _ => false

def intE (k : IntKind) : E → Bool
  | .cn (.int k' _) => k' == k
  | .un (.neg k') _ | .un (.cpl k') _ | .un (.cv k') _ => k' == k
  | .un .ln _ | .un .cp _ | .un .lnS _ | .un (.kst _) _ => k == .i64
  | .bn (.ar _ k') _ _ | .bn (.dv _ k') _ _ | .bn (.bt _ k') _ _ | .bn (.sh _ k') _ _ | .bn (.mx k') _ _ | .bn (.mn k') _ _ => k' == k
  | .bn .ixs _ _ => k == .u8
  | _ => false

def anyIntE (e : E) : Bool := [IntKind.i8, .i16, .i32, .i64, .u8, .u16, .u32, .u64].any fun k => intE k e

theorem boolE_ok {e : E} (h : boolE e = true) (env : Env) (w : World) : e.ev env w = .bool (asB (e.ev env w)) := by
  unfold boolE at h
  split at h <;> first | (cases h; done) | rfl

theorem intE_ok {k : IntKind} {e : E} (h : intE k e = true) (env : Env) (w : World) : isI k (e.ev env w) := by
  unfold intE at h
  split at h
  all_goals first
    | (cases h; done)
    | (simp only [beq_iff_eq] at h; subst h; rfl)
    | (simp only [beq_iff_eq] at h; subst h; rename_i r k' a b; cases r <;> rfl)
    | (simp only [beq_iff_eq] at h; subst h; simp only [E.ev]; unfold B.val; split <;> simp_all [isI])

theorem isInt_of_isI {k : IntKind} {v : Value} (h : isI k v) : isInt v := by
  obtain ⟨n, rfl⟩ := isI_cases h; trivial

theorem anyIntE_ok {e : E} (h : anyIntE e = true) (env : Env) (w : World) : isInt (e.ev env w) := by
  unfold anyIntE at h
  obtain ⟨k, _, hk⟩ := List.any_eq_true.1 h
  exact isInt_of_isI (intE_ok hk env w)

/-- The topmost node always yields what it says: nothing is asked. -/
def triv : E → Bool
  | .vr _ | .cn _ => true
  | .un .not a => boolE a
  | .un (.neg k) a | .un (.cpl k) a => intE k a
  | .un (.cv _) a => anyIntE a
  | .un (.kst _) _ => true
  | .bn (.ar _ k) a b | .bn (.bt _ k) a b | .bn (.cm _ k) a b | .bn (.mx k) a b | .bn (.mn k) a b => intE k a && intE k b
  | .bn (.dv _ k) a (.cn (.int k' n)) => intE k a && k' == k && n != 0
  | .bn (.sh _ k) a (.cn (.int _ n)) => intE k a && decide (0 ≤ n)
  | .bn (.eqb _) a b => boolE a && boolE b
  | .pk c _ _ => boolE c
  | .and a _ | .or a _ => boolE a
  | .gd _ _ e => triv e
  | _ => false

theorem triv_ok : ∀ {e : E}, triv e = true → ∀ (env : Env) (w : World), e.ok env w := by
  intro e
  induction e with
  | gd g want e _ ih => intro h env w _; exact ih h env w
  | vr _ => intro _ _ _; trivial
  | cn _ => intro _ _ _; trivial
  | pk c a b _ _ _ => intro h env w; simp only [triv] at h; simp only [E.ok]; rw [boolE_ok h]; trivial
  | and a b _ _ => intro h env w; simp only [triv] at h; simp only [E.ok]; rw [boolE_ok h]; trivial
  | or a b _ _ => intro h env w; simp only [triv] at h; simp only [E.ok]; rw [boolE_ok h]; trivial
  | ld a _ => intro h; simp [triv] at h
  | ldn n a _ => intro h; simp [triv] at h
  | sl s hh x lo hi _ _ _ => intro h; simp [triv] at h
  | bd o n p r _ _ => intro h; simp [triv] at h
  | un n a _ =>
    intro h env w
    cases n <;> simp only [triv] at h <;> first | (cases h; done) | skip
    · simp only [E.ok, U.ok]; rw [boolE_ok h]; trivial
    · exact intE_ok h env w
    · exact intE_ok h env w
    · exact anyIntE_ok h env w
    · trivial
  | bn n a b _ _ =>
    intro h env w
    unfold triv at h
    split at h <;> first | (cases h; done) | skip
    all_goals (rename_i heq; cases heq)
    all_goals simp only [Bool.and_eq_true, beq_iff_eq, bne_iff_ne, decide_eq_true_eq] at h
    · exact ⟨intE_ok h.1 env w, intE_ok h.2 env w⟩
    · exact ⟨intE_ok h.1 env w, intE_ok h.2 env w⟩
    · exact ⟨intE_ok h.1 env w, intE_ok h.2 env w⟩
    · exact ⟨intE_ok h.1 env w, intE_ok h.2 env w⟩
    · exact ⟨intE_ok h.1 env w, intE_ok h.2 env w⟩
    · exact ⟨⟨intE_ok h.1.1 env w, h.1.2⟩, h.2⟩
    · exact ⟨⟨intE_ok h.1 env w, trivial⟩, h.2⟩
    · refine ⟨?_, ?_⟩
      · rw [boolE_ok h.1]; trivial
      · rw [boolE_ok h.2]; trivial

end Go.Proofs.Ytajkofndbeohpaa.VG
