/-
  PATCH's STATEMENTS ON HOSTS, AS DATA. No condition.
-/
import Derived.Test.YtnkinnhgahpcoaaAl
set_option linter.unusedVariables false
set_option linter.unusedSimpArgs false
set_option maxRecDepth 100000
namespace Go.Proofs.Ytnkinnhgahpcoaa.Vc

theorem u8_range {n : Int} (h : (Lit.int .u8 n).wf = true) : 0 ≤ n ∧ n < 256 := by
  have h1 : (decide (IntKind.u8.min ≤ n) && decide (n ≤ IntKind.u8.max)) = true := h
  rw [Bool.and_eq_true, decide_eq_true_eq, decide_eq_true_eq] at h1
  have e1 : IntKind.u8.min = 0 := by decide
  have e2 : IntKind.u8.max = 255 := by decide
  omega
theorem nodup_len {α : Type} [DecidableEq α] : ∀ {l m : List α}, l.Nodup → (∀ x ∈ l, x ∈ m) → l.length ≤ m.length
  | [], _, _, _ => Nat.zero_le _
  | x :: l, m, h, hs => by
    obtain ⟨h1, h2⟩ := List.nodup_cons.1 h
    have hx := hs x (by simp)
    have := nodup_len (l := l) (m := m.erase x) h2 fun y hy => by
      have hne : y ≠ x := fun e => h1 (e ▸ hy)
      exact (List.mem_erase_of_ne hne).2 (hs y (by simp [hy]))
    rw [List.length_erase_of_mem hx] at this
    have := List.length_pos_of_mem hx
    simp; omega

/-! ### Host by host -/

/-- The host of a round. -/
def hostAt (H : List Bs) (by_ : Nat) (j : Nat) : Bs := H.getD ((j + by_) % H.length) []
/-- The list behind so many rounds. -/
def rndE (p : List En × List En) (H : List Bs) (by_ : Nat) (l : List En) : Nat → List En
  | 0 => l
  | i + 1 => applyE (rndE p H by_ l i) (onlyE p.1 (hostAt H by_ i), onlyE p.2 (hostAt H by_ i))
theorem mem_onlyE {l : List En} {h : Bs} {x : En} : x ∈ onlyE l h ↔ x ∈ l ∧ x.1 = h := by
  unfold onlyE
  rw [List.mem_filter]
  simp
theorem rnd_mem (a b : List En) (H : List Bs) (by_ : Nat) : ∀ (i : Nat) (x : En), x ∈ rndE (lessE a b, lessE b a) H by_ a i ↔ ((∃ j, j < i ∧ hostAt H by_ j = x.1) ∧ x ∈ b) ∨ ((¬∃ j, j < i ∧ hostAt H by_ j = x.1) ∧ x ∈ a)
  | 0, x => by
    constructor
    · intro h; exact .inr ⟨fun ⟨j, hj, _⟩ => by omega, h⟩
    · rintro (⟨⟨j, hj, _⟩, _⟩ | ⟨_, h⟩)
      · omega
      · exact h
  | i + 1, x => by
    have ih := rnd_mem a b H by_ i x
    rw [show rndE (lessE a b, lessE b a) H by_ a (i + 1) = applyE (rndE (lessE a b, lessE b a) H by_ a i) (onlyE (lessE a b) (hostAt H by_ i), onlyE (lessE b a) (hostAt H by_ i)) from rfl, mem_applyE]
    simp only [mem_onlyE, mem_lessE]
    rw [ih]
    by_cases hh : hostAt H by_ i = x.1
    · have v : ∃ j, j < i + 1 ∧ hostAt H by_ j = x.1 := ⟨i, by omega, hh⟩
      have hx : x.1 = hostAt H by_ i := hh.symm
      rw [eq_true v]
      generalize (∃ j, j < i ∧ hostAt H by_ j = x.1) = P
      by_cases w : P <;> by_cases h1 : x ∈ a <;> by_cases h2 : x ∈ b <;> simp [w, h1, h2, hx]
    · have hx : ¬ x.1 = hostAt H by_ i := fun e => hh e.symm
      have v : (∃ j, j < i + 1 ∧ hostAt H by_ j = x.1) ↔ ∃ j, j < i ∧ hostAt H by_ j = x.1 := by
        constructor
        · rintro ⟨j, hj, e⟩
          have : j ≠ i := fun q => hh (q ▸ e)
          exact ⟨j, by omega, e⟩
        · rintro ⟨j, hj, e⟩
          exact ⟨j, by omega, e⟩
      rw [v]
      simp only [hx, and_false, not_false_eq_true, and_true, or_false]
theorem rnd_all (a b : List En) (by_ : Nat) : setE (rndE (lessE a b, lessE b a) (hostsE (lessE a b ++ lessE b a)) by_ a (hostsE (lessE a b ++ lessE b a)).length) = setE b := by
  obtain ⟨H, hH⟩ : ∃ H, hostsE (lessE a b ++ lessE b a) = H := ⟨_, rfl⟩
  rw [hH]
  refine setG_ext ahd_ord fun x => ?_
  rw [rnd_mem]
  by_cases hx : x.1 ∈ H
  · have v : ∃ j, j < H.length ∧ hostAt H by_ j = x.1 := by
      obtain ⟨k, hk, e⟩ := List.getElem_of_mem hx
      have hn : 0 < H.length := by omega
      refine ⟨(k + (H.length - by_ % H.length)) % H.length, Nat.mod_lt _ hn, ?_⟩
      unfold hostAt
      have hb := Nat.mod_lt by_ hn
      have e2 : ((k + (H.length - by_ % H.length)) % H.length + by_) % H.length = k := by
        rw [Nat.mod_add_mod]
        have : k + (H.length - by_ % H.length) + by_ = k + H.length * (by_ / H.length + 1) := by
          have := Nat.div_add_mod by_ H.length
          rw [Nat.mul_add, Nat.mul_one]
          omega
        rw [this, Nat.add_mul_mod_self_left, Nat.mod_eq_of_lt hk]
      rw [e2]
      simp [hk, e]
    simp [v]
  · have v : ¬∃ j, j < H.length ∧ hostAt H by_ j = x.1 := by
      rintro ⟨j, hj, e⟩
      refine hx ?_
      rw [← e]
      unfold hostAt
      have hm : (j + by_) % H.length < H.length := Nat.mod_lt _ (by omega)
      rw [List.getD_eq_getElem?_getD, List.getElem?_eq_getElem hm]
      exact List.getElem_mem hm
    have hab : x ∈ a ↔ x ∈ b := by
      rw [← hH, mem_hostsE] at hx
      constructor
      · intro h
        exact Classical.byContradiction fun g => hx ⟨x, List.mem_append.2 (.inl (mem_lessE.2 ⟨h, g⟩)), rfl⟩
      · intro h
        exact Classical.byContradiction fun g => hx ⟨x, List.mem_append.2 (.inr (mem_lessE.2 ⟨h, g⟩)), rfl⟩
    simp [v, hab]
theorem rnd_len (a b : List En) (H : List Bs) (by_ i : Nat) : (rndE (lessE a b, lessE b a) H by_ a i).length ≤ a.length + b.length := by
  cases i with
  | zero => show a.length ≤ _; omega
  | succ i =>
    have hn : (rndE (lessE a b, lessE b a) H by_ a (i + 1)).Nodup := (applyE_asc _ _).nodup ahd_ord
    have := nodup_len (m := a ++ b) hn fun x hx => by
      rw [rnd_mem] at hx
      rw [List.mem_append]
      rcases hx with ⟨_, h⟩ | ⟨_, h⟩
      · exact .inr h
      · exact .inl h
    rw [List.length_append] at this
    exact this

theorem L_hosts (N : Nat) (a b : List En) (n : Int) (n0 : 0 ≤ n) (n1 : n < 256) (ma : a.length ≤ 9223372036854775807) (mb : b.length ≤ 9223372036854775807) (hN : 100000 + a.length + b.length < N) : F6 N a b n = some true := by
  have hA := P_awake N (by omega)
  obtain ⟨b1, f1, k1⟩ := F_few N a (by omega) ma
  obtain ⟨b2, f2, k2⟩ := F_few N b (by omega) mb
  unfold F6 V6
  cases b1 with
  | false => rw [ev_c1, f1, obind_some, ev_br, if_pos (by rfl), ev_c1, hA]; rfl
  | true =>
  cases b2 with
  | false => rw [ev_c1, f1, obind_some, ev_br, if_neg (by simp), ev_c1, f2, obind_some, ev_br, if_pos (by rfl), ev_c1, hA]; rfl
  | true =>
  have l1 := k1 rfl
  have l2 := k2 rfl
  have m1 := lessE_len a b
  have m2 := lessE_len b a
  obtain ⟨k, rfl⟩ := Int.eq_ofNat_of_zero_le n0
  obtain ⟨H, hH⟩ : ∃ H, hostsE (lessE a b ++ lessE b a) = H := ⟨_, rfl⟩
  have hHl : H.length ≤ 120 := by
    have := hostsE_len (lessE a b ++ lessE b a)
    rw [hH, List.length_append] at this
    omega
  have g1 : F13 N a b = some (lessE a b, lessE b a) := F_of N a b (by omega) (by omega) (by omega)
  have g2 : F21o N (lessE a b, lessE b a) = some H := by rw [F_hosts N _ (by show (lessE a b).length ≤ _; omega) (by show (lessE b a).length ≤ _; omega) (by omega)]; exact congrArg some hH
  have hW : W6_7 N (b, (k : Int), (lessE a b, lessE b a), H, a, (H.length : Int), 0) = some (.brk 0 (b, (k : Int), (lessE a b, lessE b a), H, rndE (lessE a b, lessE b a) H k a H.length, (H.length : Int), (H.length : Int))) := by
    refine loop_up (R := Bool) (step := fun x => L6_7 N x.1 x.2.1 x.2.2.1 x.2.2.2.1 x.2.2.2.2.1 x.2.2.2.2.2.1 x.2.2.2.2.2.2) H.length (fun i => (b, (k : Int), (lessE a b, lessE b a), H, rndE (lessE a b, lessE b a) H k a i, (H.length : Int), (i : Int))) (fun i hi => ?_) ?_ N (by omega)
    · unfold L6_7 U6_7
      dsimp only
      have hw : IntKind.i64.wrap ((i : Int) + 1) = (i : Int) + 1 := wrapI (by omega) (by omega)
      have hw1 : IntKind.i64.wrap ((i : Int) + IntKind.i64.wrap (k : Int)) = ((i + k : Nat) : Int) := by
        rw [wrapI (n := (k : Int)) (by omega) (by omega), wrapI (by omega) (by omega)]; omega
      have hm : (IntKind.i64.wrap ((i : Int) + IntKind.i64.wrap (k : Int))).tmod (H.length : Int) = (((i + k) % H.length : Nat) : Int) := by
        rw [hw1, Int.tmod_eq_emod_of_nonneg (by omega)]; rfl
      have hlt : (i + k) % H.length < H.length := Nat.mod_lt _ (by omega)
      have c1 : inR (((i + k) % H.length : Nat) : Int) H.length := ⟨by omega, by omega⟩
      have c0 : (H.length : Int) ≠ 0 := by omega
      have hat : atI tS H (((i + k) % H.length : Nat) : Int) = hostAt H k i := by
        show H.getD _ _ = _
        rw [Int.toNat_natCast]; rfl
      have q1 := rnd_len a b H k i
      have o1 : (onlyE (lessE a b) (hostAt H k i)).length ≤ (lessE a b).length := List.length_filter_le _ _
      have o2 : (onlyE (lessE b a) (hostAt H k i)).length ≤ (lessE b a).length := List.length_filter_le _ _
      have e1 : F14 N (lessE a b, lessE b a) (hostAt H k i) = some (onlyE (lessE a b) (hostAt H k i), onlyE (lessE b a) (hostAt H k i)) := F_only N _ _ (by show (lessE a b).length ≤ _; omega) (by show (lessE b a).length ≤ _; omega)
      have e2 := F_apply N (rndE (lessE a b, lessE b a) H k a i) (onlyE (lessE a b) (hostAt H k i), onlyE (lessE b a) (hostAt H k i)) (by omega) (by simp only; omega) (by simp only; omega) (by omega)
      simp only [ev_br, ev_ck0, ev_c1, ev_leaf, hm, hat, if_pos c0, if_pos c1, e1, obind_some, e2, hw]
      rw [if_pos (decide_eq_true (by omega))]
      rfl
    · unfold L6_7 U6_7
      dsimp only
      rw [ev_br, if_neg (by simp), ev_leaf]
  have q2 := rnd_len a b H k H.length
  have g3 := R_refs N (rndE (lessE a b, lessE b a) H k a H.length) (by omega) (by omega)
  have g4 : F23 N (rndE (lessE a b, lessE b a) H k a H.length) = some (setE b) := by
    rw [R_set N _ (by omega) (by omega), ← hH, rnd_all]
  have g5 := R_refs N b (by omega) (by omega)
  have g6 := R_set N b (by omega) (by omega)
  have n4 : (setE b).length ≤ b.length := setG_len b
  have g7 := same_self N (setE b) (by omega) (by omega)
  rw [ev_c1, f1, obind_some, ev_br, if_neg (by simp), ev_c1, f2, obind_some, ev_br, if_neg (by simp), ev_c1, g1, obind_some, ev_c1, g2, obind_some, ev_f1, hW, lp1_brk]
  simp only [ev_c1, g3, g4, g5, g6, g7, obind_some, ev_br, hA, ev_leaf, if_true]

/-! ### All hosts together -/

def cntE (l : List En) (H : List Bs) : Nat := (H.map fun h => (onlyE l h).length).foldr (· + ·) 0
theorem cnt_nil (H : List Bs) : cntE [] H = 0 := by
  unfold cntE
  induction H with
  | nil => rfl
  | cons h H ih => simp only [List.map_cons, List.foldr_cons, ih]; rfl
theorem cnt_cons (x : En) (l : List En) : ∀ (H : List Bs), cntE (x :: l) H = cntE l H + H.count x.1
  | [] => rfl
  | h :: H => by
    have ih := cnt_cons x l H
    unfold cntE at ih ⊢
    simp only [List.map_cons, List.foldr_cons]
    rw [ih, List.count_cons]
    unfold onlyE
    rw [List.filter_cons]
    by_cases he : x.1 = h
    · subst he; simp; omega
    · have : (x.1 == h) = false := by simpa using he
      have h2 : (h == x.1) = false := by simpa using fun e => he e.symm
      simp [this, h2]; omega
theorem cnt_all {H : List Bs} (hn : H.Nodup) : ∀ (l : List En), (∀ x ∈ l, x.1 ∈ H) → cntE l H = l.length
  | [], _ => cnt_nil H
  | x :: l, h => by
    rw [cnt_cons, cnt_all hn l fun y hy => h y (List.mem_cons_of_mem _ hy), List.Nodup.count hn, if_pos (h x List.mem_cons_self)]
    rfl
theorem cnt_snoc (l : List En) (H : List Bs) (h : Bs) : cntE l (H ++ [h]) = cntE l H + (onlyE l h).length := by
  unfold cntE
  induction H with
  | nil => simp
  | cons g H ih => simp only [List.cons_append, List.map_cons, List.foldr_cons] at ih ⊢; rw [ih]; omega
theorem cnt_take (l : List En) (H : List Bs) (i : Nat) (hi : i < H.length) : cntE l (H.take (i + 1)) = cntE l (H.take i) + (onlyE l H[i]).length := by
  rw [List.take_succ_eq_append_getElem hi, cnt_snoc]
theorem cnt_le (l : List En) (H : List Bs) : cntE l H ≤ H.length * l.length := by
  unfold cntE
  induction H with
  | nil => simp
  | cons h H ih =>
    have : (onlyE l h).length ≤ l.length := List.length_filter_le _ _
    simp only [List.map_cons, List.foldr_cons, List.length_cons]
    rw [Nat.succ_mul]
    omega

theorem L_parts (N : Nat) (p : List En × List En) (m1 : p.1.length ≤ 9223372036854775807) (m2 : p.2.length ≤ 9223372036854775807) (hN : 100000 + p.1.length + p.2.length < N) : F9 N p = some true := by
  have hA := P_awake N (by omega)
  obtain ⟨b1, f1, k1⟩ := F_few N p.1 (by omega) m1
  obtain ⟨b2, f2, k2⟩ := F_few N p.2 (by omega) m2
  unfold F9 V9
  cases b1 with
  | false => rw [ev_c1, f1, obind_some, ev_br, if_pos (by rfl), ev_c1, hA]; rfl
  | true =>
  cases b2 with
  | false => rw [ev_c1, f1, obind_some, ev_br, if_neg (by simp), ev_c1, f2, obind_some, ev_br, if_pos (by rfl), ev_c1, hA]; rfl
  | true =>
  have l1 := k1 rfl
  have l2 := k2 rfl
  obtain ⟨H, hH⟩ : ∃ H, hostsE (p.1 ++ p.2) = H := ⟨_, rfl⟩
  have hHl : H.length ≤ 120 := by
    have := hostsE_len (p.1 ++ p.2)
    rw [hH, List.length_append] at this
    omega
  have hasc : Asc bl H := by rw [← hH]; exact hostsE_asc _
  have hpw := List.pairwise_iff_getElem.1 hasc
  have g2 : F21o N p = some H := by rw [F_hosts N _ (by omega) (by omega) (by omega), hH]
  have t1 : ∀ i, i ≤ H.length → cntE p.1 (H.take i) ≤ 120 * 60 := fun i hi => by
    refine Nat.le_trans (cnt_le _ _) (Nat.mul_le_mul ?_ l1)
    rw [List.length_take]; omega
  have t2 : ∀ i, i ≤ H.length → cntE p.2 (H.take i) ≤ 120 * 60 := fun i hi => by
    refine Nat.le_trans (cnt_le _ _) (Nat.mul_le_mul ?_ l2)
    rw [List.length_take]; omega
  have hW : W9_6 N (p, 0, 0, [], H, (H.length : Int), 0) = some (.brk 0 (p, (cntE p.1 H : Int), (cntE p.2 H : Int), (if H.length = 0 then [] else H.getD (H.length - 1) []), H, (H.length : Int), (H.length : Int))) := by
    have := loop_up (R := Bool) (step := fun x => L9_6 N x.1 x.2.1 x.2.2.1 x.2.2.2.1 x.2.2.2.2.1 x.2.2.2.2.2.1 x.2.2.2.2.2.2) H.length (fun i => (p, (cntE p.1 (H.take i) : Int), (cntE p.2 (H.take i) : Int), (if i = 0 then [] else H.getD (i - 1) []), H, (H.length : Int), (i : Int))) (fun i hi => by
        unfold L9_6 U9_6
        dsimp only
        have hw : IntKind.i64.wrap ((i : Int) + 1) = (i : Int) + 1 := wrapI (by omega) (by omega)
        have c1 : inR (i : Int) H.length := ⟨by omega, by omega⟩
        have o1 : (onlyE p.1 H[i]).length ≤ p.1.length := List.length_filter_le _ _
        have o2 : (onlyE p.2 H[i]).length ≤ p.2.length := List.length_filter_le _ _
        have s1 := t1 i (by omega)
        have s2 := t2 i (by omega)
        have w1 : IntKind.i64.wrap ((cntE p.1 (H.take i) : Int) + ((onlyE p.1 H[i]).length : Int)) = (cntE p.1 (H.take (i + 1)) : Int) := by
          rw [wrapI (by omega) (by omega), cnt_take _ _ _ hi]; omega
        have w2 : IntKind.i64.wrap ((cntE p.2 (H.take i) : Int) + ((onlyE p.2 H[i]).length : Int)) = (cntE p.2 (H.take (i + 1)) : Int) := by
          rw [wrapI (by omega) (by omega), cnt_take _ _ _ hi]; omega
        have w3 : IntKind.i64.wrap (((onlyE p.1 H[i]).length : Int) + ((onlyE p.2 H[i]).length : Int)) = ((onlyE p.1 H[i]).length : Int) + ((onlyE p.2 H[i]).length : Int) := wrapI (by omega) (by omega)
        have hpos : 0 < (onlyE p.1 H[i]).length + (onlyE p.2 H[i]).length := by
          have hm : H[i] ∈ hostsE (p.1 ++ p.2) := by rw [hH]; exact List.getElem_mem hi
          obtain ⟨x, hx, e⟩ := mem_hostsE.1 hm
          rcases List.mem_append.1 hx with hx | hx
          · have := List.length_pos_of_mem (mem_onlyE.2 ⟨hx, e⟩); omega
          · have := List.length_pos_of_mem (mem_onlyE.2 ⟨hx, e⟩); omega
        have e1 := F_only N p H[i] (by omega) (by omega)
        have hlast : (if i + 1 = 0 then [] else H.getD (i + 1 - 1) []) = H[i] := by
          rw [if_neg (by omega), Nat.add_sub_cancel]; simp [hi]
        have hz : ¬ ((((onlyE p.1 H[i]).length : Int) + ((onlyE p.2 H[i]).length : Int)) == 0) = true := by rw [beq_iff_eq]; omega
        simp only [ev_br, ev_ck0, ev_c1, ev_leaf, if_pos c1, atT H i hi, e1, obind_some, w1, w2, w3, hw, hlast]
        rw [if_pos (decide_eq_true (by omega))]
        by_cases h0 : (0 : Int) < (i : Int)
        · rw [if_pos (decide_eq_true h0)]
          have hprev : (if i = 0 then [] else H.getD (i - 1) []) = H[i - 1]'(by omega) := by
            rw [if_neg (by omega)]; simp [show i - 1 < H.length by omega]
          have hb : bl (H[i - 1]'(by omega)) H[i] = true := hpw (i - 1) i (by omega) hi (by omega)
          have hc : (Op.bytesLess H[i] (H[i - 1]'(by omega)) || (H[i] == (H[i - 1]'(by omega)))) = false := by
            rw [show Op.bytesLess H[i] (H[i - 1]'(by omega)) = false from bl_ord.asym hb]
            have : H[i] ≠ (H[i - 1]'(by omega)) := fun e => bl_ord.ne hb e.symm
            simpa using this
          rw [hprev, hc, if_neg (by simp), if_neg hz]
          rfl
        · rw [if_neg (by simpa using h0), if_neg hz]
          rfl)
      (by
        unfold L9_6 U9_6
        dsimp only
        rw [ev_br, if_neg (by simp), ev_leaf]) N (by omega)
    have z1 : cntE p.1 (H.take 0) = 0 := rfl
    have z2 : cntE p.2 (H.take 0) = 0 := rfl
    have e : H.take H.length = H := List.take_of_length_le (Nat.le_refl _)
    have h0 : runLoop _ N (p, (0 : Int), (0 : Int), ([] : Bs), H, (H.length : Int), (0 : Int)) = some (.brk 0 (p, (cntE p.1 (H.take H.length) : Int), (cntE p.2 (H.take H.length) : Int), (if H.length = 0 then [] else H.getD (H.length - 1) []), H, (H.length : Int), (H.length : Int))) := this
    rw [e] at h0
    exact h0
  have hn : H.Nodup := hasc.nodup bl_ord
  have y1 : cntE p.1 H = p.1.length := cnt_all hn _ fun x hx => by rw [← hH, mem_hostsE]; exact ⟨x, List.mem_append.2 (.inl hx), rfl⟩
  have y2 : cntE p.2 H = p.2.length := cnt_all hn _ fun x hx => by rw [← hH, mem_hostsE]; exact ⟨x, List.mem_append.2 (.inr hx), rfl⟩
  rw [ev_c1, f1, obind_some, ev_br, if_neg (by simp), ev_c1, f2, obind_some, ev_br, if_neg (by simp), ev_c1, g2, obind_some, ev_f1, hW, lp1_brk, y1, y2]
  simp only [ev_c1, obind_some, ev_br, hA, ev_leaf, beq_self_eq_true, if_true]

end Go.Proofs.Ytnkinnhgahpcoaa.Vc
