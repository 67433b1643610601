/-
  VG, part Hp: what a walk owns, item by item; loops that count; rows of integers (and what goes with it: parts Hp Hq).
-/
import Derived.Test.YtgjnfajdejkkjaaLk
import Derived.Test.YtgjnfajdejkkjaaVgN

/-! ## VG, part Hp: what a walk owns, item by item; loops that count; rows of integers. -/
namespace Go.Proofs.Ytgjnfajdejkkjaa.VG
open Go
set_option linter.unusedSimpArgs false
set_option linter.unusedVariables false
set_option maxRecDepth 20000

/-- A thing that lies in blocks of its own. -/
structure It where
  P : World → (Nat → Prop) → Prop
  st : ∀ {w w' : World} {F S : Nat → Prop}, P w F → Mod S w w' → (∀ k, F k → ¬ S k) → P w' F
  lt : ∀ {w : World} {F : Nat → Prop}, P w F → ∀ k, F k → k < w.heap.size

/-- A row of n elements of type e (size cells each) in a block of its own. -/
def It.own (e : TypeId) (size : Nat) (v : Value) (n : Nat) (xs : List Value) : It where
  P w F := w.ownsRow 0 e size v n xs ∧ F = fun k => v.ownBlock = some k
  st := fun ⟨h, hF⟩ m d => ⟨m.owns h (fun b hb => d b (by rw [hF]; exact hb)), hF⟩
  lt := fun ⟨h, hF⟩ k hk => (h.lt k (by rw [hF] at hk; exact hk)).2

/-- A block of cells. -/
def It.blk (b : Nat) (cs : Array Value) : It where
  P w F := (∃ el, w.heap[b]? = some (.cells cs el (0, 0))) ∧ F = fun k => k = b
  st := fun ⟨⟨el, h⟩, hF⟩ m d => ⟨⟨el, m.heap h (d b (by rw [hF]))⟩, hF⟩
  lt := fun ⟨⟨el, h⟩, hF⟩ k hk => by rw [hF] at hk; rw [hk]; exact heap_lt h

def Sep (B : Nat) (w : World) : List It → List (Nat → Prop) → Prop
  | [], [] => True
  | i :: r, F :: Fs => i.P w F ∧ (∀ k, F k → B ≤ k) ∧ (∀ G ∈ Fs, ∀ k, F k → ¬ G k) ∧ Sep B w r Fs
  | _, _ => False

/-- The world w extends W; beyond it these things are owned, each in blocks of its own. -/
structure Hp (W w : World) (l : List It) : Prop where
  mod : Mod none' W w
  sep : ∃ Fs, Sep W.heap.size w l Fs

theorem Sep.len {B : Nat} {w : World} : ∀ {l : List It} {Fs : List (Nat → Prop)}, Sep B w l Fs → l.length = Fs.length
  | [], [], _ => rfl
  | i :: r, F :: Fs, h => by simp [Sep.len h.2.2.2]
  | [], _ :: _, h => h.elim
  | _ :: _, [], h => h.elim
theorem Sep.mod {B : Nat} {w w' : World} {S : Nat → Prop} (m : Mod S w w') : ∀ {l : List It} {Fs : List (Nat → Prop)}, Sep B w l Fs → (∀ F ∈ Fs, ∀ k, F k → ¬ S k) → Sep B w' l Fs
  | [], [], _, _ => trivial
  | i :: r, F :: Fs, h, d => ⟨i.st h.1 m (d F (List.mem_cons_self ..)), h.2.1, h.2.2.1, Sep.mod m h.2.2.2 (fun G hG => d G (List.mem_cons_of_mem _ hG))⟩
  | [], _ :: _, h, _ => h.elim
  | _ :: _, [], h, _ => h.elim
theorem Sep.lt {B : Nat} {w : World} : ∀ {l : List It} {Fs : List (Nat → Prop)}, Sep B w l Fs → ∀ F ∈ Fs, ∀ k, F k → k < w.heap.size ∧ B ≤ k
  | [], [], _, F, hF, _, _ => by cases hF
  | i :: r, F :: Fs, h, G, hG, k, hk => by
    rcases List.mem_cons.1 hG with rfl | hG
    · exact ⟨i.lt h.1 k hk, h.2.1 k hk⟩
    · exact Sep.lt h.2.2.2 G hG k hk
  | [], _ :: _, h, _, _, _, _ => h.elim
  | _ :: _, [], h, _, _, _, _ => h.elim
theorem Sep.app {B B' : Nat} {w : World} (hB : B ≤ B') : ∀ {l : List It} {Fs : List (Nat → Prop)} {l' : List It} {Gs : List (Nat → Prop)}, Sep B w l Fs → Sep B' w l' Gs → (∀ F ∈ Fs, ∀ G ∈ Gs, ∀ k, F k → ¬ G k) → Sep B w (l ++ l') (Fs ++ Gs)
  | [], [], l', Gs, _, h', _ => by
    have : ∀ {l : List It} {Gs : List (Nat → Prop)}, Sep B' w l Gs → Sep B w l Gs := by
      intro l
      induction l with
      | nil => intro Gs h; cases Gs <;> exact h
      | cons i r ih =>
        intro Gs h
        cases Gs with
        | nil => exact h
        | cons G Gs => exact ⟨h.1, fun k hk => Nat.le_trans hB (h.2.1 k hk), h.2.2.1, ih h.2.2.2⟩
    exact this h'
  | i :: r, F :: Fs, l', Gs, h, h', d => ⟨h.1, h.2.1, fun G hG => by
      rcases List.mem_append.1 hG with hG | hG
      · exact h.2.2.1 G hG
      · exact d F (List.mem_cons_self ..) G hG, Sep.app hB h.2.2.2 h' (fun F hF => d F (List.mem_cons_of_mem _ hF))⟩
  | [], _ :: _, _, _, h, _, _ => h.elim
  | _ :: _, [], _, _, h, _, _ => h.elim

theorem Hp.nil (w : World) : Hp w w [] := ⟨Mod.refl _ _, [], trivial⟩
theorem Hp.ofMod {W w : World} (m : Mod none' W w) : Hp W w [] := ⟨m, [], trivial⟩
/-- Nothing old changes. -/
theorem Hp.same {W w w' : World} {l : List It} (h : Hp W w l) (m : Mod none' w w') : Hp W w' l := by
  obtain ⟨Fs, hs⟩ := h.sep
  exact ⟨h.mod.tr m, Fs, hs.mod m (fun _ _ _ _ h => h)⟩
theorem Hp.drew {W w : World} {l : List It} (h : Hp W w l) : Hp W w.drew l := h.same (Mod.refl _ _).drew
/-- What a call leaves is owned too. -/
theorem Hp.join {W w w' : World} {l l' : List It} (h : Hp W w l) (h' : Hp w w' l') : Hp W w' (l ++ l') := by
  obtain ⟨Fs, hs⟩ := h.sep
  obtain ⟨Gs, hs'⟩ := h'.sep
  refine ⟨h.mod.tr h'.mod, Fs ++ Gs, (hs.mod h'.mod (fun _ _ _ _ h => h)).app h.mod.size hs' fun F hF G hG k hk hk' => ?_⟩
  have h1 := (hs.lt F hF k hk).1
  have h2 := (hs'.lt G hG k hk').2
  omega
theorem Hp.add {W w w' : World} {l : List It} {i : It} {F : Nat → Prop} (h : Hp W w l) (m : Mod none' w w') (hi : i.P w' F) (hF : ∀ k, F k → w.heap.size ≤ k) : Hp W w' (l ++ [i]) :=
  h.join ⟨m, [F], ⟨hi, hF, (fun _ hG => by cases hG), trivial⟩⟩
theorem Hp.newBlk {W w w' : World} {l : List It} (h : Hp W w l) {b : Nat} {cs : Array Value} {el : TypeId} (hb : b = w.heap.size) (hh : w'.heap[b]? = some (.cells cs el (0, 0))) (m : Mod none' w w') : Hp W w' (l ++ [.blk b cs]) :=
  h.add (F := fun k => k = b) m ⟨⟨el, hh⟩, rfl⟩ (fun k hk => by omega)
theorem Hp.nilS {W w : World} {l : List It} (h : Hp W w l) {e : TypeId} {size : Nat} : Hp W w (l ++ [.own e size (.slice none 0 0) 0 []]) :=
  h.add (F := fun k => (Value.slice none 0 0).ownBlock = some k) (Mod.refl _ _) ⟨World.ownsRow_nil _ _ _ _, rfl⟩ (fun k hk => by simp [Value.ownBlock] at hk)

theorem Sep.upd {B : Nat} {w : World} : ∀ {l : List It} {Fs : List (Nat → Prop)} {j : Nat} {i : It}, Sep B w l Fs → l[j]? = some i → ∃ F, i.P w F ∧ (∀ k, F k → B ≤ k) ∧ Fs[j]? = some F ∧
    ∀ (i' : It) (w' : World) (F' : Nat → Prop), Mod F w w' → i'.P w' F' → (∀ k, F' k → B ≤ k) → (∀ k, F' k → F k ∨ w.heap.size ≤ k) → Sep B w' (l.set j i') (Fs.set j F')
  | i :: r, F :: Fs, 0, i', h, hj => by
    simp only [List.getElem?_cons_zero, Option.some.injEq] at hj
    subst hj
    refine ⟨F, h.1, h.2.1, rfl, fun i' w' F' m hi' hB hF' => ⟨hi', hB, fun G hG k hk hk' => ?_, h.2.2.2.mod m (fun G hG k hk hk' => h.2.2.1 G hG k hk' hk)⟩⟩
    rcases hF' k hk with h1 | h1
    · exact h.2.2.1 G hG k h1 hk'
    · have := (h.2.2.2.lt G hG k hk').1; omega
  | i :: r, F :: Fs, j + 1, i', h, hj => by
    simp only [List.getElem?_cons_succ] at hj
    obtain ⟨G, h1, h2, h3, h4⟩ := Sep.upd h.2.2.2 hj
    refine ⟨G, h1, h2, by simpa using h3, fun i'' w' F' m hi' hB hF' => ?_⟩
    have hG : G ∈ Fs := List.mem_of_getElem? h3
    refine ⟨i.st h.1 m (h.2.2.1 G hG), h.2.1, fun K hK k hk hk' => ?_, h4 i'' w' F' m hi' hB hF'⟩
    rcases List.mem_or_eq_of_mem_set hK with hK | rfl
    · exact h.2.2.1 K hK k hk hk'
    · rcases hF' k hk' with h5 | h5
      · exact h.2.2.1 G hG k hk h5
      · have := i.lt h.1 k hk; omega
  | [], _, _, _, _, hj => by simp at hj
  | _ :: _, [], _, _, h, _ => h.elim

/-- One thing changes; all others stay. -/
theorem Hp.upd {W w : World} {l : List It} (h : Hp W w l) (j : Nat) {i : It} (hj : l[j]? = some i) : ∃ F, i.P w F ∧ (∀ k, F k → W.heap.size ≤ k) ∧
    ∀ (i' : It) (w' : World) (F' : Nat → Prop), Mod F w w' → i'.P w' F' → (∀ k, F' k → F k ∨ w.heap.size ≤ k) → Hp W w' (l.set j i') := by
  obtain ⟨Fs, hs⟩ := h.sep
  obtain ⟨F, h1, h2, h3, h4⟩ := hs.upd hj
  refine ⟨F, h1, h2, fun i' w' F' m hi' hF' => ⟨h.mod.trans m (fun k hk hF => by have := h2 k hF; omega), Fs.set j F', h4 i' w' F' m hi' (fun k hk => ?_) hF'⟩⟩
  rcases hF' k hk with h5 | h5
  · exact h2 k h5
  · exact Nat.le_trans h.mod.size h5
theorem Sep.drop {B : Nat} {w : World} : ∀ {l : List It} {Fs : List (Nat → Prop)} (j : Nat), Sep B w l Fs → Sep B w (l.eraseIdx j) (Fs.eraseIdx j)
  | [], [], _, _ => trivial
  | i :: r, F :: Fs, 0, h => h.2.2.2
  | i :: r, F :: Fs, j + 1, h => ⟨h.1, h.2.1, fun G hG => h.2.2.1 G (List.mem_of_mem_eraseIdx hG), Sep.drop j h.2.2.2⟩
  | [], _ :: _, _, h => h.elim
  | _ :: _, [], _, h => h.elim
theorem Hp.drop {W w : World} {l : List It} (h : Hp W w l) (j : Nat) : Hp W w (l.eraseIdx j) := by
  obtain ⟨Fs, hs⟩ := h.sep
  exact ⟨h.mod, _, hs.drop j⟩
theorem Hp.blk {W w : World} {l : List It} (h : Hp W w l) (j : Nat) {b : Nat} {cs : Array Value} (hj : l[j]? = some (.blk b cs)) : ∀ o, w.cell? ⟨b, o, none⟩ = cs[o]? := by
  obtain ⟨F, ⟨⟨el, hh⟩, _⟩, _⟩ := h.upd j hj
  exact fun o => cell_blk hh o
theorem Hp.own {W w : World} {l : List It} (h : Hp W w l) (j : Nat) {e : TypeId} {size n : Nat} {v : Value} {xs : List Value} (hj : l[j]? = some (.own e size v n xs)) : w.ownsRow 0 e size v n xs := by
  obtain ⟨F, ⟨hh, _⟩, _⟩ := h.upd j hj
  exact hh
theorem Hp.rd {W w : World} {l : List It} (h : Hp W w l) (j : Nat) {e : TypeId} {size n : Nat} {v : Value} {xs : List Value} (hj : l[j]? = some (.own e size v n xs)) : Rd (fun k => W.heap.size ≤ k) w v n xs := by
  obtain ⟨F, ⟨hh, rfl⟩, hF, _⟩ := h.upd j hj
  exact (Rd.of_owns hh).mono fun k hk => hF k hk.1
theorem Rd.at {F : Nat → Prop} {w w' : World} {v : Value} {n : Nat} {xs : List Value} (h : Rd F w v n xs) (m : Mod none' w w') : Rd F w' v n xs := h.mod m (fun _ _ h => h)

theorem ownsRow_zero {w : World} {base e size n : Nat} {v : Value} {xs : List Value} (h : w.ownsRow base e size v n xs) : w.ownsRow 0 e size v n xs := by
  refine ⟨h.1, ?_⟩
  rcases h.2 with hh | ⟨g, cap, cur, h1, h2, h3⟩
  · exact .inl hh
  · exact .inr ⟨g, cap, cur, h1, Nat.zero_le _, h3⟩

/-! ### Steps -/
section
variable {P : Program} {Q : Exit → Env → World → Prop} {env : Env} {w W : World} {k : S} {l : List It}

theorem wp_ite {c : E} {a b : S} : (S.ite c a b k).wp P Q env w = (isB (c.ev env w) ∧ (asB (c.ev env w) = true → a.wp P (thn (k.wp P Q) Q) env w) ∧ (asB (c.ev env w) = false → b.wp P (thn (k.wp P Q) Q) env w)) := rfl
theorem wp_ifg {g : E} {want : Bool} {a b : S} : (S.ifg g want a b k).wp P Q env w = ((isBool (g.ev env w) want = true → a.wp P (thn (k.wp P Q) Q) env w) ∧ (isBool (g.ev env w) want = false → b.wp P (thn (k.wp P Q) Q) env w)) := rfl

theorem wp_ite_t {c : E} {a b : S} (h : c.ev env w = .bool true) : (S.ite c a b k).wp P Q env w = a.wp P (thn (k.wp P Q) Q) env w := by
  rw [wp_ite, h]; simp [asB, isB]
theorem wp_ite_f {c : E} {a b : S} (h : c.ev env w = .bool false) : (S.ite c a b k).wp P Q env w = b.wp P (thn (k.wp P Q) Q) env w := by
  rw [wp_ite, h]; simp [asB, isB]
theorem wp_ifg_y {g : E} {want : Bool} {a b : S} (h : isBool (g.ev env w) want = true) : (S.ifg g want a b k).wp P Q env w = a.wp P (thn (k.wp P Q) Q) env w := by
  rw [wp_ifg, h]; simp
theorem wp_ifg_n {g : E} {want : Bool} {a b : S} (h : isBool (g.ev env w) want = false) : (S.ifg g want a b k).wp P Q env w = b.wp P (thn (k.wp P Q) Q) env w := by
  rw [wp_ifg, h]; simp

/-- A loop of n rounds. -/
theorem for_r {id : Nat} {a : S} (n : Nat) (J : Nat → Env → World → Prop) (h0 : J 0 env w)
    (hr : ∀ i env w, i < n → J i env w → a.wp P (thn (fun env' w' => J (i + 1) env' w') (inBlk id (k.wp P Q) Q)) env w)
    (he : ∀ env w, J n env w → a.wp P (thn (fun _ _ => False) (inBlk id (k.wp P Q) Q)) env w) : (S.blk id (.loop a) k).wp P Q env w := by
  refine loop_r (fun m env w => ∃ i, i ≤ n ∧ m = n - i ∧ J i env w) n ⟨0, by omega, by omega, h0⟩ ?_
  rintro m env w ⟨i, hi, rfl, hJ⟩
  by_cases hlt : i < n
  · exact wp_weaken a (thn_imp (fun env' w' h => ⟨n - (i + 1), by omega, i + 1, by omega, rfl, h⟩) (fun _ _ _ h => h)) (hr i env w hlt hJ)
  · obtain rfl : i = n := by omega
    exact wp_weaken a (thn_imp (fun env' w' h => h.elim) (fun _ _ _ h => h)) (he env w hJ)

theorem call_h {dst : Option Nat} {f : FuncId} {es : List E} {R : Value → World → Prop} {args : List Value} (hc : Calls P f args.toArray w (Ret R)) (ha : evs es env w = args)
    (hk : ∀ v w', R v w' → k.wp P Q (updo env dst v) w') : (S.call dst f es [] k).wp P Q env w := call_r args hc ha fun v w' h => ⟨trivial, hk v w' h⟩
/-- A call that leaves the world as it is. -/
theorem callp {dst : Option Nat} {f : FuncId} {es : List E} {args : List Value} {v : Value} (hc : Calls P f args.toArray w (Ret fun r w' => r = v ∧ w' = w)) (ha : evs es env w = args)
    (hk : k.wp P Q (updo env dst v) w) : (S.call dst f es [] k).wp P Q env w := call_r args hc ha fun v w' h => ⟨trivial, by obtain ⟨rfl, rfl⟩ := h; exact hk⟩
/-- A call that changes nothing old. -/
theorem callm {dst : Option Nat} {f : FuncId} {es : List E} {args : List Value} {v : Value} (hc : Calls P f args.toArray w (Ret fun r w' => r = v ∧ Mod none' w w')) (ha : evs es env w = args)
    (hk : ∀ w', Mod none' w w' → k.wp P Q (updo env dst v) w') : (S.call dst f es [] k).wp P Q env w := call_r args hc ha fun v w' h => ⟨trivial, by obtain ⟨rfl, h⟩ := h; exact hk w' h⟩

/-- append(own, x) of one element of one cell. -/
theorem app1_h {b : Nat} {x : Option Nat} {t e : TypeId} {bytes : Nat} (T : SlT P t e 1 bytes) {s : Nat} {o : Operand} {ty ty1 : TypeId} {m m1 : List (Nat × E)} {pr pr1 : List PrE} {v u : Value} {n : Nat} {xs : List Value} (j : Nat)
    (h : Hp W w l) (hj : l[j]? = some (.own e 1 v n xs)) (h1 : one1 u = true) (h47 : (n + 1) * bytes ≤ 140737488355328) (hm : n + 1 ≤ maxLen)
    (ho : rhoOf m1 env w o = u) (hs : ∀ v' w', rhoOf m (upd env b v') w' (.tmp s) = v) (hx : ∀ v' w', rhoOf m (upd env b v') w' (.tmp b) = v')
    (hp1 : ∀ w', Mod none' w w' → promsOk pr1 env w w')
    (hk : ∀ vb v' w1 w', Hp W w' (l.set j (.own e 1 v' (n + 1) (xs ++ [u]))) → (pr = [] ∨ promsOk pr (upd env b vb) w1 w') ∧ k.wp P Q (updo (upd env b vb) x v') w') :
    (S.op (some b) (.buildSlice t 1 #[(0, o)]) ty1 m1 pr1 (.op x (.call ⟨.builtin .append, #[.tmp s, .tmp b], #[t, t]⟩) ty m pr k)).wp P Q env w := by
  obtain ⟨F, ⟨hown, rfl⟩, hF, hu⟩ := h.upd j hj
  refine app1_r T hown h1 (Nat.zero_le _) h47 hm ho hs hx hp1 ?_
  intro vb v' w1 w' _ ho' hmod hob _
  obtain ⟨q1, q2⟩ := hk vb v' w1 w' (hu _ w' (fun k => v'.ownBlock = some k) hmod ⟨ho', rfl⟩ hob)
  refine ⟨?_, q2⟩
  rcases q1 with rfl | q1
  · trivial
  · exact q1

/-- append(own, what reads). -/
theorem app_h {x : Option Nat} {t e : TypeId} {size bytes : Nat} (T : SlT P t e size bytes) {s u : Operand} {ty : TypeId} {m : List (Nat × E)} {pr : List PrE} {v vu : Value} {n nu : Nat} {xs ys : List Value} {G : Nat → Prop} (j : Nat)
    (h : Hp W w l) (hj : l[j]? = some (.own e size v n xs)) (hu : Rd G w vu nu ys) (hl : ys.length = nu * size) (h1 : ∀ y ∈ ys, y.oneCell' = true) (h47 : (n + nu) * bytes ≤ 140737488355328) (hm : n + nu ≤ maxLen)
    (hs : rhoOf m env w s = v) (hx : rhoOf m env w u = vu)
    (hk : ∀ v' w', Hp W w' (l.set j (.own e size v' (n + nu) (xs ++ ys))) → (pr = [] ∨ promsOk pr env w w') ∧ k.wp P Q (updo env x v') w') :
    (S.op x (.call ⟨.builtin .append, #[s, u], #[t, t]⟩) ty m pr k).wp P Q env w := by
  obtain ⟨F, ⟨hown, rfl⟩, hF, hup⟩ := h.upd j hj
  refine app_r T hown hu hl h1 (Nat.zero_le _) h47 hm hs hx ?_
  intro v' w' ho' hmod hob _
  have := hup (.own e size v' (n + nu) (xs ++ ys)) w' (fun k => v'.ownBlock = some k) hmod ⟨ho', rfl⟩ (fun k hk' => by
    rcases hob with hob | hob
    · exact .inl (hob ▸ hk')
    · rw [hob] at hk'; cases hk'; exact .inr (Nat.le_refl _))
  obtain ⟨q1, q2⟩ := hk v' w' this
  refine ⟨?_, q2⟩
  rcases q1 with rfl | q1
  · trivial
  · exact q1

/-- A store of one cell into a block. -/
theorem st_h {a e : E} {pr : List PrE} {b o : Nat} {c : Array Value} {v : Value} (j : Nat) (h : Hp W w l) (hj : l[j]? = some (.blk b c)) (ha : a.ev env w = .pointer (some ⟨b, o, none⟩)) (he : e.ev env w = v) (ho : o < c.size) (h1 : one1 v = true)
    (hk : ∀ w', Hp W w' (l.set j (.blk b (c.setIfInBounds o v))) → (pr = [] ∨ promsOk pr env w w') ∧ k.wp P Q env w') : (S.st 1 a e pr k).wp P Q env w := by
  obtain ⟨F, ⟨⟨el, hh⟩, rfl⟩, hF, hup⟩ := h.upd j hj
  refine st_r ha he hh ho h1 ?_
  intro w' h2 hm _
  obtain ⟨q1, q2⟩ := hk w' (hup _ w' (fun k => k = b) hm ⟨⟨el, h2⟩, rfl⟩ (fun k hk => .inl hk))
  refine ⟨?_, q2⟩
  rcases q1 with rfl | q1
  · trivial
  · exact q1

/-- A value stored over a whole block. -/
theorem stAll_h {a e : E} {pr : List PrE} {b n : Nat} {c : Array Value} {v : Value} (j : Nat) (h : Hp W w l) (hj : l[j]? = some (.blk b c)) (ha : a.ev env w = .pointer (some ⟨b, 0, none⟩)) (he : e.ev env w = v) (hn : v.cells.size = n) (hc : c.size = n)
    (h1 : ∀ x ∈ v.cells.toList, one1 x = true) (hk : ∀ w', Hp W w' (l.set j (.blk b v.cells)) → (pr = [] ∨ promsOk pr env w w') ∧ k.wp P Q env w') : (S.st n a e pr k).wp P Q env w := by
  obtain ⟨F, ⟨⟨el, hh⟩, rfl⟩, hF, hup⟩ := h.upd j hj
  refine st_all ha he hh hn hc h1 ?_
  intro w' h2 hm _
  obtain ⟨q1, q2⟩ := hk w' (hup _ w' (fun k => k = b) hm ⟨⟨el, h2⟩, rfl⟩ (fun k hk => .inl hk))
  refine ⟨?_, q2⟩
  rcases q1 with rfl | q1
  · trivial
  · exact q1

theorem box_h {x : Option Nat} {T : TypeId} {o : Operand} {ty : TypeId} {m : List (Nat × E)} {pr : List PrE} (v : Value) (h : Hp W w l) (hv : rhoOf m env w o = v)
    (hk : ∀ b w', Hp W w' (l ++ [.blk b v.cells]) → Mod none' w w' → (pr = [] ∨ promsOk pr env w w') ∧ k.wp P Q (updo env x (.pointer (some ⟨b, 0, none⟩))) w') :
    (S.op x (.box T o) ty m pr k).wp P Q env w := by
  refine box_r v hv ?_
  intro b w' hb hh hm _
  obtain ⟨q1, q2⟩ := hk b w' (h.newBlk hb hh hm) hm
  refine ⟨?_, q2⟩
  rcases q1 with rfl | q1
  · trivial
  · exact q1

theorem alloc_h {x : Option Nat} {T : TypeId} {ty : TypeId} {m : List (Nat × E)} {pr : List PrE} {i : TypeInfo} {z : Value} (h : Hp W w l) (hi : P.info? T = some i) (hz : i.zero = some z)
    (hk : ∀ b w', Hp W w' (l ++ [.blk b z.cells]) → Mod none' w w' → (pr = [] ∨ promsOk pr env w w') ∧ k.wp P Q (updo env x (.pointer (some ⟨b, 0, none⟩))) w') :
    (S.op x (.alloc T) ty m pr k).wp P Q env w := by
  refine alloc_r hi hz ?_
  intro b w' hb hh hm _
  obtain ⟨q1, q2⟩ := hk b w' (h.newBlk hb hh hm) hm
  refine ⟨?_, q2⟩
  rcases q1 with rfl | q1
  · trivial
  · exact q1

/-- make([]T, 0, c). -/
theorem mk0_h {x : Option Nat} {t e : TypeId} {size bytes : Nat} (T : SlT P t e size bytes) {a b : Operand} {ty : TypeId} {m : List (Nat × E)} {pr : List PrE} {kl kc : IntKind} {c : Int} (h : Hp W w l)
    (ha : rhoOf m env w a = .int kl 0) (hb : rhoOf m env w b = .int kc c) (hlc : 0 ≤ c) (hby : (bytes : Int) * c ≤ 281474976710656) (h63 : c ≤ 9223372036854775807) (hcm : c.toNat ≤ maxLen)
    (hk : ∀ v w', Hp W w' (l ++ [.own e size v 0 []]) → Mod none' w w' → (pr = [] ∨ promsOk pr env w w') ∧ k.wp P Q (updo env x v) w') :
    (S.op x (.makeSlice t a b) ty m pr k).wp P Q env w := by
  refine mk_r T ha hb (Int.le_refl _) hlc hby h63 ?_
  intro b w' z hb hz hh hm hsz
  have : Hp W w' (l ++ [.own e size (.slice (some ⟨b, 0, none⟩) 0 c.toNat) 0 []]) := by
    refine h.add (F := fun k => (Value.slice (some ⟨b, 0, none⟩) 0 c.toNat).ownBlock = some k) hm ⟨⟨by simp, .inr ⟨b, c.toNat, _, rfl, Nat.zero_le _, hh, Nat.zero_le _, hcm, by simp [size_madeCells], by simp⟩⟩, rfl⟩ (fun k hk => ?_)
    simp [Value.ownBlock] at hk
    omega
  obtain ⟨q1, q2⟩ := hk _ w' this hm
  refine ⟨?_, by simpa using q2⟩
  rcases q1 with rfl | q1
  · trivial
  · exact q1
end

/-- A block read as a whole. -/
theorem cellsFrom_blk {w : World} {b : Nat} : ∀ (cs : List Value) (i n : Nat), n = cs.length → (∀ o, o < n → w.cell? ⟨b, i + o, none⟩ = cs[o]?) → cellsFrom w ⟨b, 0, none⟩ i n = cs
  | [], i, n, h, hc => by subst h; rfl
  | v :: r, i, n, h, hc => by
    subst h
    have h0 := hc 0 (by simp)
    simp only [Nat.add_zero, List.getElem?_cons_zero] at h0
    simp only [List.length_cons, cellsFrom, add_mk, Nat.zero_add, h0, Option.getD_some]
    rw [cellsFrom_blk r (i + 1) r.length rfl (fun o ho => by rw [show i + 1 + o = i + (o + 1) by omega, hc (o + 1) (by simp; omega)]; rfl)]
theorem cells_blk {w : World} {b : Nat} {cs : Array Value} (h : ∀ o, w.cell? ⟨b, o, none⟩ = cs[o]?) (n : Nat) (hn : n = cs.size) : (cellsFrom w ⟨b, 0, none⟩ 0 n).toArray = cs := by
  rw [cellsFrom_blk cs.toList 0 n (by simpa using hn) (fun o ho => by simp [h])]

@[simp] theorem cellsFrom_drew {w : World} {a : Addr} : ∀ (i n : Nat), cellsFrom w.drew a i n = cellsFrom w a i n
  | i, 0 => rfl
  | i, n + 1 => by simp only [cellsFrom, cellsFrom_drew (i + 1) n, cell_drew]

theorem same_one {a : Addr} {w w' : World} {u : Value} (h : w.cell? a = some u) (h' : w'.cell? a = some u) : SameCells a 1 w w' := by
  intro j hj
  obtain rfl : j = 0 := by omega
  rw [add_zero, h, h']

theorem same_blk {b o n : Nat} {cs : Array Value} {w w' : World} (h : ∀ o, w.cell? ⟨b, o, none⟩ = cs[o]?) (h' : ∀ o, w'.cell? ⟨b, o, none⟩ = cs[o]?) : SameCells ⟨b, o, none⟩ n w w' := fun j _ => by rw [add_mk, h, h']

/-! ### Rows of integers -/
def intsV (l : List Int) : List Value := l.map fun n => Value.int .i64 n
def gi (l : List Int) (i : Nat) : Int := l.getD i 0
theorem intsV_length (l : List Int) : (intsV l).length = l.length := by simp [intsV]
theorem intsV_snoc (l : List Int) (x : Int) : intsV l ++ [Value.int .i64 x] = intsV (l ++ [x]) := by simp [intsV]
theorem intsV_app (l m : List Int) : intsV l ++ intsV m = intsV (l ++ m) := by simp [intsV]
@[simp] theorem intsV_nil : intsV [] = [] := rfl
theorem intsV_one (l : List Int) : ∀ y ∈ intsV l, y.oneCell' = true := by
  intro y hy
  simp only [intsV, List.mem_map] at hy
  obtain ⟨n, _, rfl⟩ := hy
  rfl
theorem Rd.sl {F : Nat → Prop} {w : World} {v : Value} {n : Nat} {xs : List Value} (h : Rd F w v n xs) : isS v ∧ slL v = n := by
  obtain ⟨cap, hv⟩ := h.is
  rw [hv]; exact ⟨trivial, rfl⟩
theorem Rd.gi {F : Nat → Prop} {w : World} {v : Value} {n : Nat} {l : List Int} (h : Rd F w v n (intsV l)) (i : Nat) (hi : i < l.length) : w.cell? ((slB v).add i) = some (.int .i64 (gi l i)) :=
  h.cell i _ (by simp [intsV, VG.gi, hi])
theorem Rd.some {F : Nat → Prop} {w : World} {v : Value} {n : Nat} {l : List Int} (h : Rd F w v n (intsV l)) (hl : 0 < l.length) : (slA v).isSome = true := (h.ptr (by simpa [intsV] using hl)).1
theorem gi_take_snoc (l : List Int) (i : Nat) (h : i < l.length) : l.take (i + 1) = l.take i ++ [gi l i] := by
  rw [List.take_add_one, gi, List.getD_eq_getElem?_getD, List.getElem?_eq_getElem h]; rfl
theorem gi_get (l : List Int) (i : Nat) (h : i < l.length) : gi l i = l[i] := by simp [gi, h]
theorem gi_ext {l m : List Int} (h : l.length = m.length) (hg : ∀ i, i < l.length → gi l i = gi m i) : l = m := by
  apply List.ext_getElem h
  intro i h1 h2
  rw [← gi_get l i h1, ← gi_get m i h2]
  exact hg i h1
theorem gi_mem (l : List Int) (i : Nat) (h : i < l.length) : gi l i ∈ l := by
  rw [gi, List.getD_eq_getElem?_getD, List.getElem?_eq_getElem h]; exact List.getElem_mem _
theorem gi_app_left (l m : List Int) (i : Nat) (h : i < l.length) : gi (l ++ m) i = gi l i := by
  simp [gi, List.getElem?_append_left h]
theorem gi_take (l : List Int) (n i : Nat) (h : i < n) : gi (l.take n) i = gi l i := by
  simp [gi, List.getElem?_take_of_lt h]

theorem env0_0 {a : Value} {l : List Value} : env0 (a :: l) 0 = a := rfl
theorem env0_1 {a b : Value} {l : List Value} : env0 (a :: b :: l) 1 = b := rfl
theorem env0_2 {a b c : Value} {l : List Value} : env0 (a :: b :: c :: l) 2 = c := rfl
theorem env0_3 {a b c d : Value} {l : List Value} : env0 (a :: b :: c :: d :: l) 3 = d := rfl
theorem env0_4 {a b c d e : Value} {l : List Value} : env0 (a :: b :: c :: d :: e :: l) 4 = e := rfl
theorem env0_5 {a b c d e f : Value} {l : List Value} : env0 (a :: b :: c :: d :: e :: f :: l) 5 = f := rfl
theorem wI {x : Int} (h : -9223372036854775808 ≤ x) (h' : x ≤ 9223372036854775807) : IntKind.i64.wrap x = x := wrap_i64 h h'
theorem wU {x : Int} (h : 0 ≤ x) (h' : x ≤ 18446744073709551615) : IntKind.u64.wrap x = x := wrap_u64 h h'
theorem shr_i (k : IntKind) (x : Int) (y : Nat) (h : y ≤ k.bits) : shr k x y = x / ((2 ^ y : Nat) : Int) := by
  simp only [shr, Int.toNat_natCast, Nat.min_eq_left h]
  rw [Int.fdiv_eq_ediv_of_nonneg _ (by exact_mod_cast Nat.zero_le _)]
  norm_cast

end Go.Proofs.Ytgjnfajdejkkjaa.VG

/-! ## VG, part Hq: rows written out as literals; whole rows told by their elements. -/
namespace Go.Proofs.Ytgjnfajdejkkjaa.VG
open Go
set_option linter.unusedSimpArgs false
set_option linter.unusedVariables false
set_option maxRecDepth 20000

theorem putAt_eq : ∀ (l : List Value) (cs : Array Value) (off : Nat), off + l.length ≤ cs.size → putAt cs off l = (cs.toList.take off ++ l ++ cs.toList.drop (off + l.length)).toArray
  | [], cs, off, h => by simp [putAt]
  | v :: r, cs, off, h => by
    simp only [List.length_cons] at h
    rw [putAt, putAt_eq r _ _ (by simp; omega)]
    congr 1
    rw [Array.toList_setIfInBounds]
    have hil : off < cs.toList.length := by simp; omega
    rw [List.drop_set_of_lt (by omega), show off + 1 + r.length = off + (r.length + 1) by omega, List.length_cons]
    congr 1
    rw [List.take_add_one, List.take_set, List.set_eq_of_length_le (by simp; omega)]
    simp only [List.append_assoc, List.append_cancel_left_eq]
    rw [List.getElem?_set_self hil]
    rfl

theorem fill_seq {size : Nat} : ∀ (es : List Value) (k : Nat) (cs : Array Value), (∀ e ∈ es, e.cells.size = size) → (k + es.length) * size ≤ cs.size →
    Instr.fill (fun j => some (j * size, size)) cs ((es.zipIdx k).map fun p => (p.2, p.1)) = some (cs.toList.take (k * size) ++ es.flatMap (fun e => e.cells.toList) ++ cs.toList.drop ((k + es.length) * size)).toArray
  | [], k, cs, _, _ => by simp [Instr.fill]
  | e :: r, k, cs, he, h => by
    have h1 := he e (List.mem_cons_self ..)
    simp only [List.length_cons] at h
    have h2 : k * size + size ≤ cs.size := by
      rw [show (k + (r.length + 1)) * size = k * size + size + r.length * size by rw [Nat.add_mul, Nat.add_mul]; omega] at h
      omega
    simp only [List.zipIdx_cons, List.map_cons, Instr.fill]
    rw [if_neg (by simp [h1]; omega), ← Array.foldl_toList, Array.toList_zipIdx]
    have hz := zip_fold (k * size) e.cells.toList 0 cs
    simp only [Nat.add_zero] at hz
    have hp := putAt_eq e.cells.toList cs (k * size) (by simp [h1]; omega)
    have e1 : (List.foldl (fun cs (x : Value × Nat) => match x with | (c, j) => cs.setIfInBounds (k * size + j) c) cs e.cells.toList.zipIdx) = putAt cs (k * size) e.cells.toList := hz
    rw [e1, fill_seq r (k + 1) _ (fun e he' => he e (List.mem_cons_of_mem _ he')) (by rw [size_putAt, show (k + 1 + r.length) = (k + (r.length + 1)) by omega]; exact h), hp]
    congr 2
    have hl : e.cells.toList.length = size := by simp [h1]
    have hk1 : (k + 1) * size = k * size + size := by rw [Nat.add_mul]; omega
    have hk2 : (k + 1 + r.length) * size = k * size + size + r.length * size := by rw [Nat.add_mul, Nat.add_mul]; omega
    have hk3 : (k + (r.length + 1)) * size = k * size + size + r.length * size := by rw [← hk2]; congr 1; omega
    have hlen : (cs.toList.take (k * size) ++ e.cells.toList).length = k * size + size := by rw [List.length_append, List.length_take, hl]; simp; omega
    simp only [List.flatMap_cons, List.length_cons]
    rw [hk1, hk2, hk3, List.take_append_of_le_length (by omega), List.take_of_length_le (by omega), List.drop_append, List.drop_eq_nil_of_le (by omega), hlen, hl, List.drop_drop]
    simp only [List.nil_append, List.append_assoc]
    rw [show k * size + size + (k * size + size + r.length * size - (k * size + size)) = k * size + size + r.length * size by omega]

section
variable {P : Program} {Q : Exit → Env → World → Prop} {env : Env} {w W : World} {k : S} {l : List It}

/-- A row written out. -/
theorem bs_h {x : Option Nat} {t e : TypeId} {size bytes : Nat} (T : SlT P t e size bytes) (es : List Value) {n : Nat} {parts : Array (Nat × Operand)} {ty : TypeId} {m : List (Nat × E)} {pr : List PrE} (h : Hp W w l) (hn : n = es.length) (h24 : n * size ≤ 2 ^ 24)
    (hp : (parts.toList.map fun q => (q.1, rhoOf m env w q.2)) = es.zipIdx.map fun p => (p.2, p.1)) (hes : ∀ e ∈ es, e.cells.size = size)
    (hk : ∀ v w', Hp W w' (l ++ [.own e size v n (es.flatMap fun e => e.cells.toList)]) → Mod none' w w' → (pr = [] ∨ promsOk pr env w w') ∧ k.wp P Q (updo env x v) w') :
    (S.op x (.buildSlice t n parts) ty m pr k).wp P Q env w := by
  obtain ⟨i, z, hi, hz, hsz, hby, hzs⟩ := T.inf
  have hmap : (Array.map (fun (q : Nat × Operand) => (q.1, rhoOf m env w q.2)) parts).toList = es.zipIdx.map fun p => (p.2, p.1) := by rw [Array.toList_map]; exact hp
  have hrun : (Instr.buildSlice t n (Array.map (fun (q : Nat × Operand) => (q.1, rhoOf m env w q.2)) parts)).run P w = .ok (.slice (some ⟨w.heap.size, 0, none⟩) n n) (w.alloc (.cells (es.flatMap fun e => e.cells.toList).toArray e)) := by
    have hf : ∀ cs : Array Value, cs.size = n * size → Instr.fill (fun j => some (j * size, size)) cs (Array.map (fun (q : Nat × Operand) => (q.1, rhoOf m env w q.2)) parts).toList = some (es.flatMap fun e => e.cells.toList).toArray := by
      intro cs hcs
      rw [hmap, fill_seq es 0 cs hes (by rw [Nat.zero_add, ← hn, hcs]; exact Nat.le_refl _), Nat.zero_mul, Nat.zero_add, ← hn]
      congr 2
      rw [List.drop_eq_nil_of_le (by simp [hcs])]
      simp
    by_cases h0 : n = 0
    · subst h0
      unfold Instr.buildSlice
      rw [run_bind, run_underlying T.und]
      simp only []
      rw [run_bind, run_sizeOf hi]
      simp only [Nat.zero_mul, if_true]
      rw [if_neg (by omega), run_bind, run_pure]
      simp only []
      have := hf ((Array.range 0).map fun _ => undef) (by simp)
      rw [hsz]
      have e1 : ((Array.range 0).map fun j => ((#[] : Array Value)[j % (#[] : Array Value).size]!)) = (Array.range 0).map fun _ => undef := by simp
      rw [e1, this]
      rfl
    · exact run_buildSlice T n (by omega) h24 _ z hi hz _ (hf _ (size_madeCells _ _)) w
  have hfl : (es.flatMap fun e => e.cells.toList).length = n * size := by
    rw [hn]
    clear hp hmap hrun hn hk
    induction es with
    | nil => simp
    | cons e r ih =>
      rw [List.flatMap_cons, List.length_append, ih (fun e he => hes e (List.mem_cons_of_mem _ he))]
      have := hes e (List.mem_cons_self ..)
      simp only [Array.length_toList, List.length_cons, this]
      rw [Nat.add_mul]; omega
  show uponK P _ ((execOp (rhoOf m env w) (opOf (.buildSlice t n parts) ty)).run P w)
  have hex : (execOp (rhoOf m env w) (opOf (.buildSlice t n parts) ty)).run P w = .ok (.value (.slice (some ⟨w.heap.size, 0, none⟩) n n)) (w.alloc (.cells (es.flatMap fun e => e.cells.toList).toArray e)) := by
    simp only [execOp, opOf, run_bind]
    rw [hrun]
    rfl
  rw [hex]
  obtain ⟨h2, h3, h4⟩ := newBlk w (es.flatMap fun e => e.cells.toList).toArray e
  have hpos := T.pos
  have : Hp W (w.alloc (.cells (es.flatMap fun e => e.cells.toList).toArray e)) (l ++ [.own e size (.slice (some ⟨w.heap.size, 0, none⟩) n n) n (es.flatMap fun e => e.cells.toList)]) := by
    refine h.add (F := fun k => (Value.slice (some ⟨w.heap.size, 0, none⟩) n n).ownBlock = some k) h3 ⟨⟨hfl, .inr ⟨w.heap.size, n, _, rfl, Nat.zero_le _, h2, Nat.le_refl _, ?_, by simp [hfl], ?_⟩⟩, rfl⟩ (fun k hk => ?_)
    · have : n * 1 ≤ n * size := Nat.mul_le_mul_left _ hpos
      unfold maxLen; omega
    · rw [List.take_of_length_le (by simp [hfl])]
    · simp [Value.ownBlock] at hk; omega
  obtain ⟨q1, q2⟩ := hk _ _ this h3
  refine ⟨?_, q2⟩
  rcases q1 with rfl | q1
  · trivial
  · exact q1
end

section
variable {P : Program} {Q : Exit → Env → World → Prop} {env : Env} {w W : World} {k : S} {l : List It}
/-- make([]T, n, n), n elements of zero. -/
theorem mkN_h {x : Option Nat} {t e : TypeId} {size bytes : Nat} (T : SlT P t e size bytes) {a b : Operand} {ty : TypeId} {m : List (Nat × E)} {pr : List PrE} {kl kc : IntKind} {n : Nat} {xs : List Value} (h : Hp W w l)
    (ha : rhoOf m env w a = .int kl n) (hb : rhoOf m env w b = .int kc n) (hby : bytes * n ≤ 281474976710656) (hcm : n ≤ maxLen)
    (hz : ∀ z, (∃ i, P.info? e = some i ∧ i.zero = some z) → (madeCells z.cells (n * size)).toList = xs)
    (hk : ∀ v w', Hp W w' (l ++ [.own e size v n xs]) → Mod none' w w' → (pr = [] ∨ promsOk pr env w w') ∧ k.wp P Q (updo env x v) w') :
    (S.op x (.makeSlice t a b) ty m pr k).wp P Q env w := by
  have hm : maxLen = 9223372036854775807 := rfl
  refine mk_r T ha hb (by omega) (Int.le_refl _) (by omega) (by omega) ?_
  intro b w' z hb hzz hh hm _
  simp only [Int.toNat_natCast] at hh ⊢
  have hxs := hz z hzz
  have : Hp W w' (l ++ [.own e size (.slice (some ⟨b, 0, none⟩) n n) n xs]) := by
    refine h.add (F := fun k => (Value.slice (some ⟨b, 0, none⟩) n n).ownBlock = some k) hm ⟨⟨by rw [← hxs]; simp [size_madeCells], .inr ⟨b, n, _, rfl, Nat.zero_le _, hh, Nat.le_refl _, hcm, by simp [size_madeCells], ?_⟩⟩, rfl⟩ (fun k hk => ?_)
    · rw [← hxs, List.take_of_length_le (by simp [size_madeCells])]
    · simp [Value.ownBlock] at hk
      omega
  obtain ⟨q1, q2⟩ := hk _ w' this hm
  refine ⟨?_, q2⟩
  rcases q1 with rfl | q1
  · trivial
  · exact q1
end

theorem flat_ints (l : List Int) : ((l.map fun n => Value.int .i64 n).flatMap fun e => e.cells.toList) = intsV l := by
  induction l with
  | nil => rfl
  | cons x r ih => simp only [List.map_cons, List.flatMap_cons, ih]; rfl

/-! ### Frames -/
/-- A world with no heap, else as w. -/
def bare (w : World) : World := { w with heap := #[] }
/-- All blocks of w0 but F0's are as they were. -/
def It.old (w0 : World) (F0 : Nat → Prop) : It where
  P w F := (F = fun k => k < w0.heap.size ∧ ¬ F0 k) ∧ w0.heap.size ≤ w.heap.size ∧ ∀ k, k < w0.heap.size → ¬ F0 k → w.heap[k]? = w0.heap[k]?
  st := fun ⟨hF, hs, hb⟩ m d => ⟨hF, Nat.le_trans hs m.size, fun k hk hn => by rw [m.block k (Nat.lt_of_lt_of_le hk hs) (d k (by rw [hF]; exact ⟨hk, hn⟩))]; exact hb k hk hn⟩
  lt := fun ⟨hF, hs, hb⟩ k hk => by rw [hF] at hk; exact Nat.lt_of_lt_of_le hk.1 hs
theorem bare_mod (w : World) : Mod none' (bare w) w := ⟨rfl, rfl, rfl, Nat.zero_le _, fun k hk => absurd hk (Nat.not_lt_zero k)⟩

/-- One thing changes in its blocks, others are made. -/
theorem Hp.upR {W w : World} {l : List It} (h : Hp W w l) (j : Nat) {i : It} (hj : l[j]? = some i) : ∃ F, i.P w F ∧ (∀ k, F k → W.heap.size ≤ k) ∧
    ∀ (i' : It) (w' : World) (F' : Nat → Prop) (R : List It), Mod F w w' → i'.P w' F' → (∀ k, F' k → F k) → (∃ Gs, Sep w.heap.size w' R Gs) → Hp W w' (l.set j i' ++ R) := by
  obtain ⟨Fs, hs⟩ := h.sep
  obtain ⟨F, h1, h2, h3, h4⟩ := hs.upd hj
  refine ⟨F, h1, h2, fun i' w' F' R m hi' hF' ⟨Gs, hg⟩ => ?_⟩
  have hs' := h4 i' w' F' m hi' (fun k hk => h2 k (hF' k hk)) (fun k hk => .inl (hF' k hk))
  refine ⟨h.mod.trans m (fun k hk hF => by have := h2 k hF; omega), _, hs'.app h.mod.size hg ?_⟩
  intro K hK G hG k hk hk'
  have h5 := (hg.lt G hG k hk').2
  rcases List.mem_or_eq_of_mem_set hK with hK | rfl
  · have := (hs.lt K hK k hk).1; omega
  · have := (hs.lt _ (List.mem_of_getElem? h3) k (hF' k hk)).1; omega
theorem Sep.swap {B : Nat} {w : World} {i j : It} {r : List It} {Fs : List (Nat → Prop)} (h : Sep B w (i :: j :: r) Fs) : ∃ Gs, Sep B w (j :: i :: r) Gs ∧ (∀ K : Nat → Prop, (∀ G ∈ Fs, ∀ k, K k → ¬ G k) → ∀ G ∈ Gs, ∀ k, K k → ¬ G k) := by
  match Fs, h with
  | F :: G :: Fs, ⟨h1, h2, h3, h4, h5, h6, h7⟩ =>
    refine ⟨G :: F :: Fs, ⟨h4, h5, ?_, h1, h2, fun K hK => h3 K (List.mem_cons_of_mem _ hK), h7⟩, ?_⟩
    · intro K hK k hk hk'
      rcases List.mem_cons.1 hK with rfl | hK
      · exact h3 G (List.mem_cons_self ..) k hk' hk
      · exact h6 K hK k hk hk'
    · intro K hK L hL
      simp only [List.mem_cons] at hL
      rcases hL with rfl | rfl | hL
      · exact hK _ (by simp)
      · exact hK _ (by simp)
      · exact hK _ (by simp [hL])
theorem Sep.under {B : Nat} {w : World} {l l' : List It} (h : ∀ Fs, Sep B w l Fs → ∃ Gs, Sep B w l' Gs ∧ (∀ K : Nat → Prop, (∀ G ∈ Fs, ∀ k, K k → ¬ G k) → ∀ G ∈ Gs, ∀ k, K k → ¬ G k)) (i : It) :
    ∀ Fs, Sep B w (i :: l) Fs → ∃ Gs, Sep B w (i :: l') Gs ∧ (∀ K : Nat → Prop, (∀ G ∈ Fs, ∀ k, K k → ¬ G k) → ∀ G ∈ Gs, ∀ k, K k → ¬ G k) := by
  intro Fs hs
  match Fs, hs with
  | F :: Fs, ⟨h1, h2, h3, h4⟩ =>
    obtain ⟨Gs, g1, g2⟩ := h Fs h4
    refine ⟨F :: Gs, ⟨h1, h2, g2 F h3, g1⟩, ?_⟩
    intro K hK L hL
    rcases List.mem_cons.1 hL with rfl | hL
    · exact hK _ (List.mem_cons_self ..)
    · exact g2 K (fun G hG => hK G (List.mem_cons_of_mem _ hG)) L hL
theorem Sep.perm {B : Nat} {w : World} {l l' : List It} (p : l.Perm l') : ∀ Fs, Sep B w l Fs → ∃ Gs, Sep B w l' Gs ∧ (∀ K : Nat → Prop, (∀ G ∈ Fs, ∀ k, K k → ¬ G k) → ∀ G ∈ Gs, ∀ k, K k → ¬ G k) := by
  induction p with
  | nil => exact fun Fs h => ⟨Fs, h, fun _ h => h⟩
  | cons x _ ih => exact Sep.under ih x
  | swap x y l => exact fun Fs h => Sep.swap h
  | trans _ _ ih1 ih2 =>
    intro Fs h
    obtain ⟨Gs, h1, h2⟩ := ih1 Fs h
    obtain ⟨Ks, h3, h4⟩ := ih2 Gs h1
    exact ⟨Ks, h3, fun K hK => h4 K (h2 K hK)⟩
/-- What is owned may be told in any order. -/
theorem Hp.perm {W w : World} {l l' : List It} (h : Hp W w l) (p : l.Perm l') : Hp W w l' := by
  obtain ⟨Fs, hs⟩ := h.sep
  obtain ⟨Gs, g, _⟩ := Sep.perm p Fs hs
  exact ⟨h.mod, Gs, g⟩
theorem wp_alt {P : Program} {a b : S} {Q : Exit → Env → World → Prop} {env : Env} {w : World} (ha : a.wp P Q env w) (hb : b.wp P Q env w) : (S.alt a b).wp P Q env w := ⟨ha, hb⟩

theorem sq_r {P : Program} {Q : Exit → Env → World → Prop} {env : Env} {w : World} {a k : S} (J : Env → World → Prop) (h : a.wp P (thn J Q) env w) (hk : ∀ env w, J env w → k.wp P Q env w) : (S.sq a k).wp P Q env w :=
  wp_weaken a (thn_imp (fun env' w' h => hk env' w' h) (fun _ _ _ h => h)) h


/-- A thing that lies in blocks that are told: opened in a context of its own, beside all that is old. -/
theorem Hp.openG {w : World} {i : It} {F : Nat → Prop} (h : i.P w F) : Hp (bare w) w [i, .old w F] :=
  ⟨bare_mod w, [F, fun k => k < w.heap.size ∧ ¬ F k], h, fun _ _ => Nat.zero_le _, by intro G hG k hk; simp only [List.mem_singleton] at hG; subst hG; exact fun h => h.2 hk,
    ⟨rfl, Nat.le_refl _, fun _ _ _ => rfl⟩, fun _ _ => Nat.zero_le _, (fun _ h => by cases h), trivial⟩
theorem Hp.shutG {w w' : World} {i : It} {F : Nat → Prop} {R : List It} (hi : ∀ F', i.P w' F' → F' = F) (h : Hp (bare w) w' (i :: .old w F :: R)) :
    i.P w' F ∧ Mod F w w' ∧ ∃ Gs, Sep w.heap.size w' R Gs := by
  obtain ⟨Fs, hs⟩ := h.sep
  rcases Fs with _ | ⟨F1, _ | ⟨F2, Gs⟩⟩
  · exact hs.elim
  · exact hs.2.2.2.elim
  obtain ⟨h1, _, h3, ⟨e2, h5, h6⟩, _, h8, h9⟩ := hs
  obtain rfl := hi F1 h1
  subst e2
  refine ⟨h1, ⟨h.mod.os, h.mod.tape, h.mod.output, h5, fun k hk hn => h6 k hk hn⟩, Gs, ?_⟩
  have hlow : ∀ G ∈ Gs, ∀ k, G k → w.heap.size ≤ k := by
    intro G hG k hk
    rcases Nat.lt_or_ge k w.heap.size with hlt | hge
    · exfalso
      by_cases hFk : F1 k
      · exact h3 G (List.mem_cons_of_mem _ hG) k hFk hk
      · exact h8 G hG k ⟨hlt, hFk⟩ hk
    · exact hge
  have lift : ∀ (R : List It) (Gs : List (Nat → Prop)), Sep (bare w).heap.size w' R Gs → (∀ G ∈ Gs, ∀ k, G k → w.heap.size ≤ k) → Sep w.heap.size w' R Gs := by
    intro R
    induction R with
    | nil => intro Gs h _; cases Gs <;> exact h
    | cons i r ih =>
      intro Gs h hl
      cases Gs with
      | nil => exact h.elim
      | cons G Gs => exact ⟨h.1, hl G (List.mem_cons_self ..), h.2.2.1, ih Gs h.2.2.2 (fun G' hG' => hl G' (List.mem_cons_of_mem _ hG'))⟩
  exact lift R Gs h9 hlow

/-! ### Rows with room -/
/-- A row that reads, with its room behind. -/
structure Rc (F : Nat → Prop) (w : World) (v : Value) (n : Nat) (xs : List Value) : Prop where
  rd : Rd F w v n xs
  cap : n ≤ slC v
  len : xs.length = n
theorem Rc.at {F : Nat → Prop} {w w' : World} {v : Value} {n : Nat} {xs : List Value} (h : Rc F w v n xs) (m : Mod none' w w') : Rc F w' v n xs := ⟨h.rd.at m, h.cap, h.len⟩
theorem Rc.sl {F : Nat → Prop} {w : World} {v : Value} {n : Nat} {xs : List Value} (h : Rc F w v n xs) : isS v ∧ slL v = n ∧ n ≤ slC v := ⟨h.rd.sl.1, h.rd.sl.2, h.cap⟩

theorem slB_some (a : Addr) (n cap : Nat) : slB (.slice (some a) n cap) = a := rfl
theorem Rc.cut {F : Nat → Prop} {w : World} {v : Value} {n : Nat} {xs : List Value} (h : Rc F w v n xs) (lo hi : Nat) (h1 : lo ≤ hi) (h2 : hi ≤ n) : Rc F w (slVal 1 v lo hi) (hi - lo) ((xs.take hi).drop lo) := by
  obtain ⟨cap, hv⟩ := h.rd.is
  have hcap := h.cap
  have hlen := h.len
  have hptr := h.rd.ptr
  have hcell := h.rd.cell
  clear h
  generalize slA v = oa at *
  subst hv
  replace hcap : n ≤ cap := hcap
  cases oa with
  | none =>
    have h0 : xs.length = 0 := by
      rcases Nat.eq_zero_or_pos xs.length with h | h
      · exact h
      · exact absurd (hptr h).1 (by simp)
    have e : slVal 1 (.slice none n cap) lo hi = .slice none (hi - lo) (cap - lo) := by by_cases hc : cap = lo <;> simp [slVal, slA, slC, hc]
    rw [e]
    obtain rfl : xs = [] := List.eq_nil_of_length_eq_zero h0
    refine ⟨⟨⟨_, rfl⟩, fun hp => by simp at hp, fun j u hj => by simp at hj⟩, by show hi - lo ≤ cap - lo; omega, by simp; omega⟩
  | some a =>
    have e : slVal 1 (.slice (some a) n cap) lo hi = .slice (some (if cap = lo then a else a.add lo)) (hi - lo) (cap - lo) := by simp only [slVal, slA, slC, Nat.mul_one, Option.map_some]; split <;> rfl
    rw [e]
    refine ⟨⟨⟨_, rfl⟩, fun hp => ⟨rfl, ?_⟩, fun j u hj => ?_⟩, by show hi - lo ≤ cap - lo; omega, by simp; omega⟩
    · simp only [List.length_drop, List.length_take] at hp
      obtain ⟨_, p2⟩ := hptr (by omega)
      rw [slB_some] at p2 ⊢
      split
      · exact p2
      · simpa [add_block] using p2
    · have hj' := (List.getElem?_eq_some_iff.1 hj).1
      simp only [List.length_drop, List.length_take] at hj'
      rw [List.getElem?_drop, List.getElem?_take_of_lt (by omega)] at hj
      have hc := hcell (lo + j) u hj
      rw [slB_some] at hc ⊢
      rw [if_neg (by omega), add_add]
      exact hc

theorem intsV_cut (l : List Int) (lo hi : Nat) : ((intsV l).take hi).drop lo = intsV ((l.take hi).drop lo) := by simp [intsV]
theorem Rc.cuti {F : Nat → Prop} {w : World} {v : Value} {l : List Int} (h : Rc F w v l.length (intsV l)) (lo hi : Nat) (h1 : lo ≤ hi) (h2 : hi ≤ l.length) : Rc F w (slVal 1 v lo hi) ((l.take hi).drop lo).length (intsV ((l.take hi).drop lo)) := by
  have := h.cut lo hi h1 h2
  rw [intsV_cut] at this
  have e : ((l.take hi).drop lo).length = hi - lo := by simp; omega
  rw [e]; exact this
theorem Rc.sl_ok {F : Nat → Prop} {w : World} {v : Value} {n : Nat} {xs : List Value} (h : Rc F w v n xs) (lo hi : Nat) : isS (slVal 1 v lo hi) ∧ slL (slVal 1 v lo hi) = hi - lo := ⟨trivial, rfl⟩

theorem Hp.rc {W w : World} {l : List It} (h : Hp W w l) (j : Nat) {e : TypeId} {n : Nat} {v : Value} {xs : List Value} (hj : l[j]? = some (.own e 1 v n xs)) : Rc (fun k => W.heap.size ≤ k) w v n xs := by
  refine ⟨h.rd j hj, ?_, ?_⟩
  · rcases (h.own j hj).2 with ⟨rfl, rfl⟩ | ⟨g, cap, cur, rfl, _, _, hn, _⟩
    · exact Nat.le_refl _
    · exact hn
  · have := (h.own j hj).1; omega

/-- An element of an own row of one-cell elements is set. -/
theorem set_h {P : Program} {Q : Exit → Env → World → Prop} {env : Env} {W w : World} {l : List It} {k : S} {a ex : E} {pr : List PrE} {e : TypeId} {v u : Value} {n i : Nat} {xs : List Value} (j : Nat) (h : Hp W w l) (hj : l[j]? = some (.own e 1 v n xs)) (hi : i < n)
    (ha : a.ev env w = .pointer (some ((slB v).add i))) (he : ex.ev env w = u) (h1 : one1 u = true)
    (hk : ∀ w', Hp W w' (l.set j (.own e 1 v n (xs.set i u))) → (pr = [] ∨ promsOk pr env w w') ∧ k.wp P Q env w') : (S.st 1 a ex pr k).wp P Q env w := by
  obtain ⟨F, ⟨hown, rfl⟩, hF, hup⟩ := h.upd j hj
  obtain ⟨hlen, hcase⟩ := hown
  rcases hcase with ⟨_, h0⟩ | ⟨g, cap, cur, rfl, hg0, hh, hn, hm, hs, ht⟩
  · omega
  have hB : slB (.slice (some ⟨g, 0, none⟩) n cap) = ⟨g, 0, none⟩ := rfl
  rw [hB, add_mk, Nat.zero_add] at ha
  refine st_r ha he hh (by omega) h1 ?_
  intro w' h2 hm' _
  obtain ⟨q1, q2⟩ := hk w' (hup _ w' (fun k => (Value.slice (some ⟨g, 0, none⟩) n cap).ownBlock = some k) (hm'.mono fun k _ hk => by subst hk; rfl) ⟨⟨by simp [hlen], .inr ⟨g, cap, _, rfl, hg0, h2, hn, hm, by simpa using hs, by rw [← ht, Array.toList_setIfInBounds, List.take_set]⟩⟩, rfl⟩ (fun k hk => .inl hk))
  refine ⟨?_, q2⟩
  rcases q1 with rfl | q1
  · trivial
  · exact q1

theorem Hp.blkNew {W w : World} {l : List It} (h : Hp W w l) (j : Nat) {b : Nat} {cs : Array Value} (hj : l[j]? = some (.blk b cs)) : W.heap.size ≤ b ∧ b < w.heap.size := by
  obtain ⟨F, ⟨⟨el, h1⟩, rfl⟩, h2, _⟩ := h.upd j hj
  exact ⟨h2 b rfl, heap_lt h1⟩
theorem Rc.mod {F S : Nat → Prop} {w w' : World} {v : Value} {n : Nat} {xs : List Value} (h : Rc F w v n xs) (m : Mod S w w') (hd : ∀ k, F k → ¬ S k) : Rc F w' v n xs := ⟨h.rd.mod m hd, h.cap, h.len⟩

theorem Rc.top {F : Nat → Prop} {w : World} {v : Value} {n : Nat} {xs : List Value} (h : Rc F w v n xs) : Rc (fun _ => True) w v n xs := ⟨h.rd.mono fun _ _ => trivial, h.cap, h.len⟩
theorem Rd.top {F : Nat → Prop} {w : World} {v : Value} {n : Nat} {xs : List Value} (h : Rd F w v n xs) : Rd (fun _ => True) w v n xs := h.mono fun _ _ => trivial
theorem blk2 {w : World} {t : Nat} {a c : Value} (h : ∀ o, w.cell? ⟨t, o, none⟩ = (#[a, c] : Array Value)[o]?) : (cellsFrom w ⟨t, 0, none⟩ 0 2).toArray = #[a, c] ∧ (∀ j, j < 2 → (w.cell? ⟨t, j, none⟩).isSome = true) ∧ w.cell? ⟨t, 0, none⟩ = some a ∧ w.cell? ⟨t, 1, none⟩ = some c := by
  have h0 : w.cell? ⟨t, 0, none⟩ = some a := by rw [h 0]; rfl
  have h1 : w.cell? ⟨t, 1, none⟩ = some c := by rw [h 1]; rfl
  refine ⟨cells_blk h 2 rfl, fun j hj => ?_, h0, h1⟩
  obtain rfl | rfl : j = 0 ∨ j = 1 := by omega
  · rw [h0]; rfl
  · rw [h1]; rfl
end Go.Proofs.Ytgjnfajdejkkjaa.VG
