/-
  VG, part E: what an operation's expression is, and that the operation yields it.
-/
import Derived.Test.YtajkofndbeohpaaVgD
import Derived.Laws.Sem
namespace Go.Proofs.Ytajkofndbeohpaa.VG
open Go
set_option linter.unusedSimpArgs false
set_option linter.unusedVariables false

/-- A temporary that the region has written: its expression; the guard under which it was written (a temporary, the outcome wanted, that temporary's expression). -/
structure Ent where
  t : Nat
  e : E
  g : Option (Nat × Bool)
  ge : E

def rd (lv : List Nat) (m : List Ent) (cur ext : Option (Nat × Bool)) : Operand → Option E
  | .const v => some (.cn v)
  | .global g => some (.cn (.pointer (some ⟨g, 0, none⟩)))
  | .func f => some (.cn (.func (.func f) #[] #[]))
  | .tmp t => if lv.contains t then some (.vr t) else match m.find? (fun en => en.t == t) with
    | none => none
    | some en => match en.g with
      | none => some en.e
      | some (tg, want) => if cur == some (tg, want) || ext == some (tg, want) then some en.e else some (.gd en.ge want en.e)

def opInst (t : Operand) : Option Nat := match t with | .tmp t => some t | _ => none

/-- The parts of a composite value, laid into its zero value one after the other. -/
def bdE (place : Nat → Option (Nat × Nat)) (R : Operand → Option E) : E → List (Nat × Operand) → Option E
  | acc, [] => some acc
  | acc, (i, x) :: r => match place i, R x with
    | some (off, n), some e => bdE place R (.bd off n e acc) r
    | _, _ => none

def placesOf (P : Program) : List Field → Option (List (Nat × Nat))
  | [] => some []
  | f :: r => match P.info? f.type, placesOf P r with
    | some i, some l => some ((f.offset, i.size) :: l)
    | _, _ => none

def mkPk (c a b : E) : E :=
  match a, b with
  | .cn (.bool true), b' => if boolE b' then .or c b' else .pk c a b
  | a', .cn (.bool false) => if boolE a' then .and c a' else .pk c a b
  | _, _ => .pk c a b

/-- The expression of an operation that only reads. -/
def cE (P : Program) (R : Operand → Option E) (o : Op) : Option E :=
  match o with
  | .move x => R x
  | .assign x => R x
  | .load t x => match P.underlying t, P.info? t, R x with
    | some d, some i, some e => if isAggD d then some (.ldn i.size e) else some (.ld e)
    | _, _, _ => none
  | .slice t x lo hi none => match P.underlying t with
    | some (.slice el) => match P.info? el, R x, (match lo with | none => some (E.cn (.int .i64 0)) | some y => R y), (match hi with | none => some (E.cn undef) | some y => R y) with
      | some i, some ex, some el, some eh => some (.sl i.size hi.isSome ex el eh)
      | _, _, _, _ => none
    | _ => none
  | .build t parts => match P.info? t, P.underlying t with
    | some i, some (.struct fs) => match i.zero, placesOf P fs.toList with
      | some z, some pl => bdE (pl[·]?) R (.cn (.agg z.cells)) parts.toList
      | _, _ => none
    | some i, some (.array _ el) => match i.zero, P.info? el with
      | some z, some j => bdE (fun k => some (k * j.size, j.size)) R (.cn (.agg z.cells)) parts.toList
      | _, _ => none
    | _, _ => none
  | o => match cU P o with
    | some (n, x) => (R x).map (.un n)
    | none => match cB P o with
      | some (n, x, y) => match R x, R y with
        | some a, some b => some (.bn n a b)
        | _, _ => none
      | none => none

def isLoadOp : Op → Bool
  | .load _ _ => true
  | _ => false

def isMv : Op → Bool
  | .move _ | .assign _ => true
  | _ => false

/-- An operation whose result hangs on its operands alone, or that reads memory and does nothing else. -/
def quietOp (P : Program) : Op → Bool
  | .move _ | .assign _ | .pick .. | .load .. | .build .. => true
  | .slice t _ _ _ none => match P.underlying t with | some (.slice _) => true | _ => false
  | o => (cU P o).isSome || (cB P o).isSome

section
variable {P : Program}

/-- The cells that a read reads, as they are in w. -/
def SameCells (a : Addr) (n : Nat) (w w' : World) : Prop := ∀ j, j < n → w'.cell? (a.add j) = w.cell? (a.add j)

/-- What must not change for the expression's topmost node to yield what it does in w. -/
def Holds1 (e : E) (env : Env) (w w' : World) : Prop :=
  match e with
  | .ld a => SameCells (asA (a.ev env w)) 1 w w'
  | .ldn n a => SameCells (asA (a.ev env w)) n w w'
  | _ => True

theorem Holds1.refl (e : E) (env : Env) (w : World) : Holds1 e env w w := by
  unfold Holds1; split <;> first | trivial | (intro j _; rfl)

theorem add_zero (a : Addr) : a.add 0 = a := by simp [Addr.add]

theorem run_load {a : Addr} {v : Value} {w : World} (h : w.cell? a = some v) : (load a).run P w = .ok v w := by
  simp [load, Sem.run, h]

theorem run_loadCellsFrom (a : Addr) (w0 w : World) : ∀ (n i : Nat) (acc : Array Value), (∀ j, i ≤ j → j < i + n → (w0.cell? (a.add j)).isSome = true ∧ w.cell? (a.add j) = w0.cell? (a.add j)) →
    (loadCellsFrom a i n acc).run P w = .ok (acc ++ (cellsFrom w0 a i n).toArray) w := by
  intro n
  induction n with
  | zero => intro i acc h; simp [loadCellsFrom, cellsFrom, run_pure]
  | succ n ih =>
    intro i acc h
    obtain ⟨h1, h2⟩ := h i (Nat.le_refl _) (by omega)
    obtain ⟨v, hv⟩ := Option.isSome_iff_exists.1 h1
    rw [loadCellsFrom, run_bind, run_load (h2.trans hv)]
    simp only []
    rw [ih (i + 1) (acc.push v) (fun j h3 h4 => h j (by omega) (by omega))]
    simp [cellsFrom, hv]

theorem run_sliceBound (v : Value) (y : Nat) (c : BoundsCode) (w : World) (h : isInt v) (h0 : 0 ≤ asI v) (h1 : asI v ≤ y) :
    (Instr.sliceBound v y c).run P w = .ok (asI v).toNat w := by
  obtain ⟨k, n, rfl⟩ := isInt_cases h
  simp only [asI] at h0 h1
  simp [Instr.sliceBound, run_bind, asIntOf, run_pure, h0, h1, asI]

theorem zip_fold (off : Nat) : ∀ (l : List Value) (k : Nat) (cs : Array Value), (l.zipIdx k).foldl (fun cs (p : Value × Nat) => cs.setIfInBounds (off + p.2) p.1) cs = putAt cs (off + k) l
  | [], _, _ => rfl
  | v :: r, k, cs => by
    simp only [List.zipIdx_cons, List.foldl_cons, putAt]
    rw [zip_fold off r (k + 1)]
    rfl

theorem size_putAt : ∀ (l : List Value) (cs : Array Value) (off : Nat), (putAt cs off l).size = cs.size
  | [], _, _ => rfl
  | v :: r, cs, off => by rw [putAt, size_putAt r]; simp

theorem fill_bdE {place : Nat → Option (Nat × Nat)} {R : Operand → Option E} {ρ : Operand → Value} {env : Env} {w : World} : ∀ (parts : List (Nat × Operand)) (acc e : E) (cs : Array Value),
    bdE place R acc parts = some e → acc.ev env w = .agg cs → (∀ p ∈ parts, ∀ ex, R p.2 = some ex → ρ p.2 = ex.ev env w) → e.ok env w →
    ∃ cs', e.ev env w = .agg cs' ∧ Instr.fill place cs (parts.map fun p => (p.1, ρ p.2)) = some cs' ∧ acc.ok env w
  | [], acc, e, cs, h, ha, _, hok => by
    simp only [bdE, Option.some.injEq] at h
    subst h
    exact ⟨cs, ha, rfl, hok⟩
  | (i, x) :: r, acc, e, cs, h, ha, hR, hok => by
    simp only [bdE] at h
    split at h
    case h_1 off n ex hp hx =>
      have hv := hR (i, x) (List.mem_cons_self ..) ex hx
      obtain ⟨cs', h1, h2, h3⟩ := fill_bdE r (.bd off n ex acc) e (putAt cs off (ex.ev env w).cells.toList) h (by simp [E.ev, ha, agC])
        (fun p hp => hR p (List.mem_cons_of_mem _ hp)) hok
      simp only [E.ok, ha, agC] at h3
      refine ⟨cs', h1, ?_, h3.2⟩
      simp only [List.map_cons, Instr.fill, hp, hv]
      rw [if_neg (by simp [h3.1.1]; omega), ← h2]
      congr 1
      rw [← Array.foldl_toList, Array.toList_zipIdx, zip_fold]
      rfl
    case h_2 => cases h

theorem bdE_ag {place : Nat → Option (Nat × Nat)} {R : Operand → Option E} : ∀ (parts : List (Nat × Operand)) (acc e : E), bdE place R acc parts = some e → (∃ cs, acc = .cn (.agg cs)) ∨ (∃ o n p r, acc = .bd o n p r) →
    (∃ cs, e = .cn (.agg cs)) ∨ (∃ o n p r, e = .bd o n p r)
  | [], acc, e, h, ha => by simp only [bdE, Option.some.injEq] at h; subst h; exact ha
  | (i, x) :: r, acc, e, h, ha => by
    simp only [bdE] at h
    split at h
    · exact bdE_ag r _ e h (.inr ⟨_, _, _, _, rfl⟩)
    · cases h

theorem map_bind_push (bs : Array (Nat × Nat)) (f : Field) : (bs.push <$> (do let s ← sizeOf f.type; pure (f.offset, s)) : Sem (Array (Nat × Nat))) = (do let s ← sizeOf f.type; pure (bs.push (f.offset, s))) := by
  rw [map_eq_pure_bind, bind_assoc]
  congr 1

theorem run_places (P : Program) : ∀ (fs : List Field) (pl : List (Nat × Nat)) (acc : Array (Nat × Nat)) (w : World), placesOf P fs = some pl →
    (fs.foldlM (fun (acc : Array (Nat × Nat)) f => do let s ← sizeOf f.type; pure (acc.push (f.offset, s)) : Array (Nat × Nat) → Field → Sem (Array (Nat × Nat))) acc).run P w = .ok (acc ++ pl.toArray) w
  | [], pl, acc, w, h => by
    simp only [placesOf, Option.some.injEq] at h
    subst h
    simp [run_pure]
  | f :: r, pl, acc, w, h => by
    simp only [placesOf] at h
    split at h
    case h_1 i l hi hl =>
      cases h
      simp only [List.foldlM_cons, run_bind, run_sizeOf hi, run_pure]
      rw [run_places P r l _ w hl]
      simp
    case h_2 => cases h

/-- THE READ-ONLY OPERATION YIELDS ITS EXPRESSION'S VALUE, in every world in which the cells that it reads are as they are here. -/
theorem cE_run {o : Oper} {e : E} {R : Operand → Option E} (h : cE P R o.op = some e) (ρ : Operand → Value) (env : Env) (w : World) (hc : ∀ v, ρ (.const v) = v)
    (hR : ∀ x ex, R x = some ex → x ∈ o.op.operands → ρ x = ex.ev env w) (hok : isMv o.op = true ∨ e.ok env w) (w' : World) (hw : Holds1 e env w w') :
    (execOp ρ o).run P w' = .ok (.value (e.ev env w)) w' := by
  have hops : ∀ op', o.op = op' → ∀ x ex, R x = some ex → x ∈ op'.operands → ρ x = ex.ev env w := fun op' e' x ex h1 h2 => hR x ex h1 (e' ▸ h2)
  obtain ⟨dst, op, ty, pos, af, gd⟩ := o
  simp only [cE] at h
  split at h
  case h_1 x =>
    have := hops _ rfl x e h (by simp [Op.operands])
    simp [execOp, run_pure, this]
  case h_2 x =>
    have := hops _ rfl x e h (by simp [Op.operands])
    simp [execOp, run_pure, this]
  case h_3 t x =>
    replace hok := hok.resolve_left (by simp [isMv])
    split at h
    case h_1 d i ex hd hi hx =>
      have hv := hops _ rfl x ex hx (by simp [Op.operands])
      split at h
      case isTrue hag =>
        cases h
        obtain ⟨h1, h2⟩ := hok
        obtain ⟨a, ha⟩ := isP_cases h1
        simp only [Holds1] at hw
        simp only [ha, asA] at h2 hw
        simp only [execOp, hv, ha, Instr.loadAt, Instr.sureAddr, run_bind, run_pure, loadVar, run_isAgg hd, hag, if_true, run_sizeOf hi, loadCells, E.ev, asA]
        rw [run_loadCellsFrom a w w' i.size 0 #[] (fun j _ hj => ⟨h2 j (by omega), hw j (by omega)⟩)]
        simp
      case isFalse hag =>
        cases h
        obtain ⟨h1, h2⟩ := hok
        obtain ⟨a, ha⟩ := isP_cases h1
        simp only [Holds1] at hw
        simp only [ha, asA] at h2 hw
        have h3 := hw 0 (by omega)
        rw [add_zero] at h3
        obtain ⟨v, hv'⟩ := Option.isSome_iff_exists.1 h2
        simp only [execOp, hv, ha, Instr.loadAt, Instr.sureAddr, run_bind, run_pure, loadVar, run_isAgg hd, hag, E.ev, asA, Bool.false_eq_true, if_false, run_load (h3.trans hv'), hv', Option.getD_some]
    case h_2 => cases h
  case h_4 t x lo hi =>
    replace hok := hok.resolve_left (by simp [isMv])
    split at h
    case h_1 el hu =>
      split at h
      case h_1 i ex el' eh hi' hx hlo hhi =>
        cases h
        have hv := hops _ rfl x ex hx (by simp [Op.operands])
        obtain ⟨⟨h1, h2⟩, h3, h4, h5⟩ := hok
        obtain ⟨a, n, c, ha⟩ := isS_cases h1
        simp only [ha, slC, slL] at h3 h5
        have hrun : (Instr.sliceBounds true n c (lo.map ρ) (hi.map ρ) none).run P w' = .ok ((asI (el'.ev env w)).toNat, (if hi.isSome = true then (asI (eh.ev env w)).toNat else n), c) w' := by
          cases hi with
          | none =>
            simp only [Option.isSome_none, Bool.false_eq_true, if_false] at h5 ⊢
            cases lo with
            | none =>
              cases hlo
              simp [Instr.sliceBounds, run_bind, run_pure, E.ev, asI]
            | some y =>
              have hy := hops _ rfl y el' hlo (by simp [Op.operands])
              simp only [Instr.sliceBounds, run_bind, run_pure, Option.map_some, Option.map_none, hy]
              rw [run_sliceBound _ n _ w' h2 h4 h5]
          | some z =>
            have hz := hops _ rfl z eh hhi (by cases lo <;> simp [Op.operands])
            obtain ⟨h6, h7, h8⟩ := h3 rfl
            simp only [Option.isSome_some, if_true] at h5 ⊢
            cases lo with
            | none =>
              cases hlo
              simp only [Instr.sliceBounds, run_bind, run_pure, Option.map_some, Option.map_none, hz]
              rw [run_sliceBound _ c _ w' h6 h7 h8]
              simp [run_pure, E.ev, asI]
            | some y =>
              have hy := hops _ rfl y el' hlo (by simp [Op.operands])
              simp only [Instr.sliceBounds, run_bind, run_pure, Option.map_some, Option.map_none, hz, hy]
              rw [run_sliceBound _ c _ w' h6 h7 h8]
              simp only []
              rw [run_sliceBound _ _ _ w' h2 h4 h5]
        simp only [execOp, hv, ha, Instr.sliceAt, run_bind, run_underlying hu, Instr.slice, Option.map_none, hrun, run_sizeOf hi', run_pure, E.ev, slVal, slC, slA, slL]
      case h_2 => cases h
    case h_2 => cases h
  case h_5 t parts =>
    replace hok := hok.resolve_left (by simp [isMv])
    have hop : ∀ p ∈ parts.toList, ∀ ex, R p.2 = some ex → ρ p.2 = ex.ev env w := fun p hp ex hx =>
      hops _ rfl p.2 ex hx (by simp only [Op.operands]; exact List.mem_toArray.2 (List.mem_map.2 ⟨p, hp, rfl⟩))
    have hmap : (parts.map fun (q : Nat × Operand) => (q.1, ρ q.2)).toList = parts.toList.map fun p => (p.1, ρ p.2) := by simp
    split at h
    case h_1 i fs hi hu =>
      split at h
      case h_1 z pl hz hpl =>
        obtain ⟨cs', h1, h2, _⟩ := fill_bdE parts.toList _ e z.cells h rfl hop hok
        have hpm : (fs.mapM (fun f => do let s ← sizeOf f.type; pure (f.offset, s) : Field → Sem (Nat × Nat))).run P w' = .ok pl.toArray w' := by
          rw [Array.mapM_eq_foldlM, ← Array.foldlM_toList]
          have := run_places P fs.toList pl #[] w' hpl
          rw [Array.empty_append] at this
          rw [← this]
          congr 2
          funext bs f
          exact map_bind_push bs f
        simp only [execOp, Instr.build, run_bind, run_zeroValue hi hz, run_underlying hu]
        rw [hpm]
        simp only [List.getElem?_toArray]
        rw [hmap, h2]
        simp only [run_pure, h1]
      case h_2 => cases h
    case h_2 i nn el hi hu =>
      split at h
      case h_1 z j hz hj =>
        obtain ⟨cs', h1, h2, _⟩ := fill_bdE parts.toList _ e z.cells h rfl hop hok
        simp only [execOp, Instr.build, run_bind, run_zeroValue hi hz, run_underlying hu, run_sizeOf hj]
        rw [hmap, h2]
        simp only [run_pure, h1]
      case h_2 => cases h
    case h_3 => cases h
  case h_6 hm1 hm2 _ _ _ =>
    replace hok := hok.resolve_left (by cases op <;> first | (simp [isMv]; done) | exact (hm1 _ rfl).elim | exact (hm2 _ rfl).elim)
    split at h
    case h_1 n x hcu =>
      cases hx : R x with
      | none => simp [hx] at h
      | some ex =>
        simp only [hx, Option.map_some, Option.some.injEq] at h
        subst h
        have hv := hops _ rfl x ex hx (cU_mem hcu)
        have := cU_run (o := ⟨dst, op, ty, pos, af, gd⟩) hcu ρ hc (by rw [hv]; exact hok) w'
        rw [this, hv]
        rfl
    case h_2 hcu =>
      split at h
      case h_1 n x y hcb =>
        split at h
        case h_1 a b ha hb =>
          cases h
          have hm := cB_mem hcb
          have hv1 := hops _ rfl x a ha hm.1
          have hv2 := hops _ rfl y b hb hm.2
          have := cB_run (o := ⟨dst, op, ty, pos, af, gd⟩) hcb ρ (by rw [hv1, hv2]; exact hok) w'
          rw [this, hv1, hv2]
          rfl
        case h_2 => cases h
      case h_2 => cases h

end
end Go.Proofs.Ytajkofndbeohpaa.VG
