/-
  Long: the law LongAgain.
-/
import Derived.Test.YtdpnaaggjgmaiaaLj
import Derived.Test.YtdpnaaggjgmaiaaLs
namespace Go.Proofs.Ytdpnaaggjgmaiaa.VG
open Go
set_option linter.unusedSimpArgs false
set_option linter.unusedVariables false

theorem shr2 (x : Int) : shr .i64 x 2 = x / 4 := shr_i .i64 x 2 (by decide)

/-- The row again and again. -/
def again (l : List Int) (N : Nat) : List Int := (List.range N).map fun i => gi l (i % l.length) / 4
theorem again_len (l : List Int) (N : Nat) : (again l N).length = N := by simp [again]
theorem again_gi (l : List Int) (N i : Nat) (h : i < N) : gi (again l N) i = gi l (i % l.length) / 4 := by simp [again, gi, h]
theorem again_per (l : List Int) (N i : Nat) (h : i < N) (hn : l.length ≤ i) : gi (again l N) i = gi (again l N) (i - l.length) := by
  rw [again_gi l N i h, again_gi l N _ (by omega)]
  congr 2
  have : i = (i - l.length) + l.length := by omega
  conv => lhs; rw [this]
  rw [Nat.add_mod_right]

def B32 (l : List Int) : Prop := ∀ i, -2147483648 ≤ gi l i ∧ gi l i ≤ 2147483647
theorem again_wide (l : List Int) (N : Nat) (hb : B32 l) : allW (again l N) = true := by
  rw [allW, List.all_eq_true]
  intro x hx
  simp only [again, List.mem_map] at hx
  obtain ⟨i, _, rfl⟩ := hx
  have := hb (i % l.length)
  rw [wideB_iff]
  omega

theorem again_may (n : Nat) (h1 : 2 ≤ n) (h2 : n ≤ 40) : mayB n [0, 64, 0] = true := by
  rw [mayB_iff (show Taps [0, 64, 0] from rfl)]
  refine ⟨by omega, fun j hj => ?_⟩
  obtain rfl | rfl | rfl : j = 0 ∨ j = 1 ∨ j = 2 := by omega
  all_goals simp [gi]

theorem again_guess (m : List Int) (n i : Nat) : guess m i n [0, 64, 0] = if n ≤ i then gi m (i - n) else 0 := by
  have t0 : term m i n [0, 64, 0] 0 = 0 := by unfold term; split <;> simp [gi]
  have t2 : term m i n [0, 64, 0] 2 = 0 := by unfold term; split <;> simp [gi]
  have t1 : term m i n [0, 64, 0] 1 = if n ≤ i then 64 * gi m (i - n) else 0 := by
    unfold term
    by_cases h : n ≤ i
    · rw [if_pos (by omega), if_pos h, show ((i : Int) - n - 1 + (1 : Nat)).toNat = i - n by omega]; rfl
    · rw [if_neg (by omega), if_neg h]
  simp only [guess, psum, t0, t1, t2]
  split <;> omega

theorem again_rest (l : List Int) (N : Nat) (hb : B32 l) (h1 : 2 ≤ l.length) (h2 : l.length ≤ 40) :
    restS (again l N) l.length [0, 64, 0] = (restL (again l N) l.length [0, 64, 0], 0) ∧ ∀ i, l.length ≤ i → i < N → gi (restL (again l N) l.length [0, 64, 0]) i = 0 := by
  have hw := again_wide l N hb
  have hg : ∀ i, i < N → gi (restL (again l N) l.length [0, 64, 0]) i = if l.length ≤ i then 0 else gi (again l N) i := by
    intro i hi
    rw [restL_gi _ _ _ _ (by rw [again_len]; exact hi), again_guess]
    split
    · rename_i h
      rw [again_per l N i hi h]; omega
    · omega
  refine ⟨restS_of (again_may _ h1 h2) hw ?_, fun i h3 h4 => by rw [hg i h4, if_pos h3]⟩
  rw [allW, List.all_eq_true]
  intro x hx
  obtain ⟨i, hi, rfl⟩ := List.getElem_of_mem hx
  rw [← gi_get _ i hi, hg i (by rw [restL_len, again_len] at hi; exact hi)]
  split
  · decide
  · exact wideB_iff.2 (allW_gi hw i (by rw [restL_len] at hi; exact hi))

theorem findF_min (l : List Int) (L M : Nat) : ∀ i, 0 < i → ∃ g, L ≤ g ∧ g < L + i ∧ (findF l L M i).1 = (g : Int) ∧ (findF l L M i).2 = dall l M g ∧ ∀ k, k < i → (findF l L M i).2 ≤ dall l M (L + k)
  | i + 1, _ => by
    simp only [findF]
    split
    · rename_i h
      refine ⟨L + i, by omega, by omega, rfl, rfl, fun k hk => ?_⟩
      by_cases hki : k = i
      · subst hki; exact Int.le_refl _
      · rcases h with h | h
        · omega
        · obtain ⟨g, _, _, _, _, h5⟩ := findF_min l L M i (by omega)
          have := h5 k (by omega)
          show dall l M (L + i) ≤ _
          omega
    · rename_i h
      obtain ⟨g, h1, h2, h3, h4, h5⟩ := findF_min l L M i (by omega)
      refine ⟨g, h1, by omega, h3, h4, fun k hk => ?_⟩
      by_cases hki : k = i
      · subst hki; omega
      · exact h5 k (by omega)
theorem dsum_zero {l : List Int} (M g : Nat) : ∀ j, (∀ k, k < j → dterm l M g k = 0) → dsum l M g j = 0
  | 0, _ => rfl
  | j + 1, h => by simp only [dsum]; rw [dsum_zero M g j (fun k hk => h k (by omega)), h j (by omega)]; rfl
theorem dterm_nn (l : List Int) (M g j : Nat) : 0 ≤ dterm l M g j := by unfold dterm; omega
theorem dsum_nn (l : List Int) (M g : Nat) : ∀ j, 0 ≤ dsum l M g j
  | 0 => by simp [dsum]
  | j + 1 => by have h1 := dsum_nn l M g j; have h2 := dterm_nn l M g j; simp only [dsum]; omega
theorem dsum_all {l : List Int} (M g : Nat) : ∀ j, dsum l M g j = 0 → ∀ k, k < j → dterm l M g k = 0
  | j + 1, h, k, hk => by
    have h1 := dsum_nn l M g j
    have h2 := dterm_nn l M g j
    simp only [dsum] at h
    by_cases hkj : k = j
    · subst hkj; omega
    · exact dsum_all M g j (by omega) k (by omega)

theorem again_find (l : List Int) (N : Nat) (hb : B32 l) (h1 : 2 ≤ l.length) (h2 : l.length ≤ 40) (hN : l.length < N) (hN' : N ≤ 4096) :
    ∃ g : Nat, 2 ≤ g ∧ g ≤ l.length ∧ findS (again l N) 2 l.length = ((g : Int), 0) ∧ ∀ i, l.length ≤ i → i < N → gi (again l N) i = gi (again l N) (i - g) := by
  have hw := again_wide l N hb
  obtain ⟨g, h3, h4, h5, h6, h7⟩ := findF_min (again l N) 2 l.length (l.length - 2 + 1) (by omega)
  have hz : dall (again l N) l.length l.length = 0 := by
    refine dsum_zero _ _ _ fun k hk => ?_
    rw [again_len] at hk
    unfold dterm
    rw [again_per l N (l.length + k) (by omega) (by omega)]
    omega
  have h8 := h7 (l.length - 2) (by omega)
  rw [show 2 + (l.length - 2) = l.length by omega, hz, h6] at h8
  have h9 := dsum_nn (again l N) l.length g ((again l N).length - l.length)
  have h10 : dall (again l N) l.length g = 0 := by
    have : dall (again l N) l.length g = dsum (again l N) l.length g ((again l N).length - l.length) := rfl
    omega
  refine ⟨g, h3, by omega, ?_, fun i h11 h12 => ?_⟩
  · unfold findS
    rw [if_neg (by rw [again_len]; omega), if_neg (by rw [again_len]; omega), if_neg (by rw [hw]; simp)]
    rw [show (2 : Int).toNat = 2 from rfl, Int.toNat_natCast, h5]
  · have := dsum_all l.length g _ h10 (i - l.length) (by rw [again_len]; omega)
    unfold dterm at this
    rw [show l.length + (i - l.length) = i by omega] at this
    omega

set_option maxHeartbeats 2000000 in
theorem again_c {w : World} {u : Value} {l : List Int} (h : Rd (fun k => k < w.heap.size) w u l.length (l.map fun n => .int .i32 n)) (hl : l.length ≤ maxLen) (hb : B32 l) (T : Nat) (hT : T < 256) :
    Calls Try.prog 6 [u, .int .u8 T].toArray w (Ret fun r w' => r = .bool true ∧ Mod none' w w') := by
  refine F_sound c6 (by simp [fc6]) ?_
  obtain ⟨hS, hL⟩ := h.sl
  simp [fc6, s6]
  refine callm lknown_c (by simp) ?_
  intro w2 M2
  have H := Hp.ofMod M2
  simp
  refine ite_r (t := false) (by simp) (fun h => by cases h) (fun _ => ?_)
  simp [hS, hL]
  by_cases hbig : l.length < 2 ∨ 40 < l.length
  · refine ite_r (t := true) (by simp; omega) (fun _ => ?_) (fun h => by cases h)
    simp [H.mod]
  refine ite_r (t := false) (by simp; omega) (fun h => by cases h) (fun _ => ?_)
  simp
  have hT4 : (T : Int).tmod 4 = ((T % 4 : Nat) : Int) := by rw [tmod_nn (by omega)]; omega
  have h5 : 3 + T % 4 ≤ 6 ∧ 3 ≤ 3 + T % 4 := by omega
  obtain ⟨N, hN⟩ : ∃ N, N = l.length * (3 + T % 4) := ⟨_, rfl⟩
  have hN1 : l.length * 3 ≤ N := by rw [hN]; exact Nat.mul_le_mul_left _ h5.2
  have hN2 : N ≤ 40 * 6 := by rw [hN]; exact Nat.mul_le_mul (by omega) h5.1
  have hNI : (l.length : Int) * (3 + ((T % 4 : Nat) : Int)) = (N : Int) := by rw [hN]; push_cast; rfl
  have hlen := again_len l N
  have hw1 : IntKind.i64.wrap (3 + ((T % 4 : Nat) : Int)) = 3 + ((T % 4 : Nat) : Int) := wI (by omega) (by omega)
  have hw2 : IntKind.i64.wrap (N : Int) = (N : Int) := wI (by omega) (by omega)
  have hw3 : IntKind.i64.wrap (T : Int) = (T : Int) := wI (by omega) (by omega)
  refine for_r N (fun i env' w' => env' 0 = u ∧ env' 1 = .int .u8 T ∧ env' 5 = .int .i64 l.length ∧ env' 7 = .int .i64 i ∧ Hp w w' [.own 3 1 (env' 6) i (intsV ((again l N).take i))]) ?_ ?_ ?_
  · simp
    simpa using H.nilS
  · rintro i env w' hi ⟨e0, e1, e5, e7, H⟩
    simp only [wp_chk, wp_set, E.ev, E.ok, U.val, U.ok, B.val, B.ok, e1, e5, e7, asI_int, hw3, hT4, arith, hw1, hNI, hw2, cmpi, isI_int, isInt_int]
    simp
    refine ite_r (t := true) (by simp; omega) (fun _ => ?_) (fun h => by cases h)
    have hmod : (i : Int).tmod (l.length : Int) = ((i % l.length : Nat) : Int) := by rw [tmod_nn (by omega)]; omega
    have hil : i % l.length < l.length := Nat.mod_lt _ (by omega)
    have hc : w'.cell? ((slB u).add (i % l.length)) = some (.int .i32 (gi l (i % l.length))) := (h.at H.mod).cell _ _ (by simp [gi, hil])
    have hp := (h.ptr (by simp; omega)).1
    have hbb := hb (i % l.length)
    have hw4 : IntKind.i64.wrap (gi l (i % l.length)) = gi l (i % l.length) := wI (by omega) (by omega)
    have hmod' : ((i : Int) % (l.length : Int)).toNat = i % l.length := by omega
    simp [wp_blk, e0, e5, e7, hmod, hS, hL, hp]
    have hmi : ((i % l.length : Nat) : Int) = (i : Int) % (l.length : Int) := by omega
    simp only [← hmi, Int.toNat_natCast, hc]
    simp
    refine ⟨by rintro rfl; simp at hil, by omega, ?_⟩
    refine app1_h slTI 0 H rfl (u := .int .i64 (gi (again l N) i)) (by simp) (by omega) (by unfold maxLen; omega) (by simp [hw4, shr2, again_gi l N i hi]) (by simp) (by simp) (by simp) ?_
    intro vb v' w5 w6 H
    refine ⟨.inl rfl, ?_⟩
    rw [intsV_snoc, ← gi_take_snoc _ i (by rw [hlen]; exact hi)] at H
    simp (disch := omega) [wI, wU, tmod_nn, tdiv_nn, env0_0, env0_1, env0_2, env0_3, env0_4, env0_5, -env0_apply, e0, e1, e5, e7]
    exact H
  · rintro env w' ⟨e0, e1, e5, e7, H⟩
    simp only [wp_chk, wp_set, E.ev, E.ok, U.val, U.ok, B.val, B.ok, e1, e5, e7, asI_int, hw3, hT4, arith, hw1, hNI, hw2, cmpi, isI_int, isInt_int]
    simp
    refine ite_r (t := false) (by simp) (fun h => by cases h) (fun _ => ?_)
    rw [List.take_of_length_le (by omega)] at H
    have hmay := again_rest l N hb (by omega) (by omega)
    obtain ⟨g, hg1, hg2, hg3, hg4⟩ := again_find l N hb (by omega) (by omega) (by omega) (by omega)
    have hrd := H.rd 0 rfl
    simp [putAt, Value.cells]
    refine call_h (rest_c l.length [0, 64, 0] (l := again l N) (by rw [hlen]; exact hrd) (by omega) rfl) (by simp [tapV, intsV, putAt, Value.cells, e5]) ?_
    rw [hmay.1]
    rintro r w4 ⟨r1, rfl, hr1⟩
    replace H := H.join hr1
    simp
    refine callm (find_c 2 l.length (l := again l N) (by rw [hlen]; exact H.rd 0 rfl) (by unfold maxLen; omega)) (by simp [e5]) ?_
    intro w5 M5
    rw [hg3]
    replace H := H.same M5
    have hm := H.rd 0 rfl
    have hrr := H.rd 1 rfl
    dsimp only at hrr
    obtain ⟨mS, mL⟩ := hm.sl
    obtain ⟨rS, rL⟩ := hrr.sl
    have hrl : (restL (again l N) l.length [0, 64, 0]).length = N := by rw [restL_len, hlen]
    rw [hrl] at rL
    simp [mS, mL, rS, rL, e5]
    refine ite_r (t := false) (by simp; omega) (fun h => by cases h) (fun _ => ?_)
    simp [e5]
    refine for_r (N - l.length) (fun i env' w' => env' 6 = env 6 ∧ env' 8 = r1 ∧ env' 10 = .int .i64 g ∧ env' 12 = .int .i64 ((l.length + i : Nat) : Int) ∧ Mod none' w5 w') ?_ ?_ ?_
    · simp [e5, Mod.refl]
    · rintro i env' w' hi ⟨d6, d8, d10, d12, m⟩
      have c1 := (hrr.at m).gi (l.length + i) (by omega)
      have c2 := (hm.at m).gi (l.length + i) (by omega)
      have c3 := (hm.at m).gi (l.length + i - g) (by omega)
      rw [hmay.2 _ (by omega) (by omega)] at c1
      have p1 := hrr.some (by omega)
      have p2 := hm.some (by omega)
      have hx : ((l.length : Int) + i).toNat = l.length + i := by omega
      have hy : ((l.length : Int) + i - g).toNat = l.length + i - g := by omega
      have hq := hg4 (l.length + i) (by omega) (by omega)
      simp [d8, d12, rS, rL]
      refine ite_r (t := true) (by simp; omega) (fun _ => ?_) (fun h => by cases h)
      simp (disch := omega) [wI, wU, tmod_nn, tdiv_nn, env0_0, env0_1, env0_2, env0_3, env0_4, env0_5, -env0_apply, wp_blk, d6, d8, d10, d12, rS, rL, mS, mL, p1, p2, hx, hy, c1, c2, c3, hq]
      refine ⟨by omega, by omega, ?_⟩
      refine ite_r (t := false) (by simp) (fun h => by cases h) (fun _ => ?_)
      simp (disch := omega) [wI, wU, tmod_nn, tdiv_nn, env0_0, env0_1, env0_2, env0_3, env0_4, env0_5, -env0_apply, d6, d8, d10, d12]
      exact ⟨by omega, m.drew⟩
    · rintro env' w' ⟨d6, d8, d10, d12, m⟩
      simp [d8, d12, rS, rL]
      refine ite_r (t := false) (by simp; omega) (fun h => by cases h) (fun _ => ?_)
      simp
      exact H.mod.tr m

theorem ints32_of {H : Type} {enc : TypeId × Value → H} {w : World} {a : Option Addr} {len cap : Nat} (h : Sees enc Try.prog w 32 [.slice a len cap]) :
    ∃ l : List Int, l.length = len ∧ len ≤ maxLen ∧ Rd (fun b => b < w.heap.size) w (.slice a len cap) len (l.map fun n => .int .i32 n) ∧ B32 l := by
  obtain ⟨l, h1, h2, _, h3, h4⟩ := row_of (e := 21) (k := .i32) (by kernel_rfl) (by kernel_rfl) (by kernel_rfl) h
  refine ⟨l, h1, h2, h3, fun i => ?_⟩
  by_cases hi : i < l.length
  · exact wf_i32 (h4 _ (gi_mem l i hi))
  · rw [gi, List.getD_eq_getElem?_getD, List.getElem?_eq_none (by omega)]; simp

end Go.Proofs.Ytdpnaaggjgmaiaa.VG
