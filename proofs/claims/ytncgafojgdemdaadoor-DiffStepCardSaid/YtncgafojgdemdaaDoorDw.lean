/-
  CHANGES, AS ROWS: what both sides answer. No condition.
-/
import Derived.Test.YtncgafojgdemdaaDoorQd
import Derived.Test.YtncgafojgdemdaaDoorDt
set_option linter.unusedVariables false
set_option linter.unusedSimpArgs false
namespace Go.Proofs.YtncgafojgdemdaaDoor.Vc

def wrdS (w : Bs) : Bs := 32 :: (if 40 < w.length then [] else quoteS w)
def sgnS (k : Int) : Bs := if k = 1 then [45] else if k = 2 then [43] else if k = 3 then [33] else [63]
def numS (k m : Int) : Bs := if k ≠ 1 ∧ (k ≠ 2 ∨ m ≠ 0) then [32, 40] ++ Lib.itoa m ++ [41] else []
def rowS (c : Ch) : Bs := sgnS c.1 ++ c.2.1.flatMap wrdS ++ numS c.1 c.2.2 ++ [10]
def chTxt (l : List Ch) : Bs := l.flatMap rowS
def okC (c : Ch) : Prop := c.2.1.length ≤ 40 ∧ 0 ≤ c.2.2 ∧ c.2.2 ≤ 1000000000

theorem wrd_len (w : Bs) : (wrdS w).length ≤ 163 := by
  unfold wrdS
  split
  · simp
  · have := quote_len w
    simp; omega
theorem wrds_len : ∀ p : List Bs, (p.flatMap wrdS).length ≤ 163 * p.length
  | [] => by simp
  | w :: p => by
    have := wrds_len p
    have := wrd_len w
    rw [List.flatMap_cons, List.length_append, List.length_cons]; omega
theorem sgn_len (k : Int) : (sgnS k).length = 1 := by
  unfold sgnS
  split
  · rfl
  · split
    · rfl
    · split <;> rfl
theorem dec_len : ∀ (f u : Nat), u < 10 ^ (f + 1) → (Lib.decDigits u).length ≤ f + 1
  | f, u, h => by
    rw [Lib.decDigits]
    split
    · simp
    · rename_i h2
      cases f with
      | zero => omega
      | succ f =>
        have := dec_len f (u / 10) (by rw [Nat.pow_succ] at h; omega)
        simp; omega
theorem itoa_len {m : Int} (h0 : 0 ≤ m) (h9 : m ≤ 1000000000) : (Lib.itoa m).length ≤ 10 := by
  unfold Lib.itoa
  rw [if_neg (by omega)]
  exact dec_len 9 _ (by omega)
theorem num_len {k m : Int} (h0 : 0 ≤ m) (h9 : m ≤ 1000000000) : (numS k m).length ≤ 13 := by
  have := itoa_len h0 h9
  unfold numS
  split
  · simp; omega
  · simp
theorem row_len {c : Ch} (h : okC c) : (rowS c).length ≤ 6600 := by
  have h1 := sgn_len c.1
  have h2 := wrds_len c.2.1
  have h3 := num_len (k := c.1) h.2.1 h.2.2
  have := h.1
  unfold rowS
  simp only [List.length_append, List.length_cons, List.length_nil]; omega
theorem txt_len : ∀ {l : List Ch}, (∀ c ∈ l, okC c) → (chTxt l).length ≤ 6600 * l.length
  | [], _ => by simp [chTxt]
  | c :: l, h => by
    have h1 := txt_len (l := l) fun x hx => h x (by simp [hx])
    have h2 := row_len (h c (by simp))
    unfold chTxt at h1 ⊢
    rw [List.flatMap_cons, List.length_append, List.length_cons]; omega
theorem txt_succ {l : List Ch} {i : Nat} (hi : i < l.length) : chTxt (l.take (i + 1)) = chTxt (l.take i) ++ rowS l[i] := by
  rw [List.take_succ_eq_append_getElem hi]
  unfold chTxt
  rw [List.flatMap_append]; simp
theorem wrds_succ {p : List Bs} {i : Nat} (hi : i < p.length) : (p.take (i + 1)).flatMap wrdS = (p.take i).flatMap wrdS ++ wrdS p[i] := by
  rw [List.take_succ_eq_append_getElem hi, List.flatMap_append]; simp

theorem F_sign (N : Nat) (k : Int) : F30 N k = some (sgnS k) := by
  unfold F30 V30 sgnS
  simp only [ev_br, ev_leaf, beq_iff_eq]
  split
  · rfl
  · split
    · rfl
    · split <;> rfl

theorem bts_len (x : Bs) : (bts x).length = x.length := by unfold bts; rw [List.length_map]
theorem F_ws2 (N : Nat) (b : Bool) (t s : Bs) (hl : t.length + s.length ≤ 100000000) (h0 : t ++ s ≠ []) : F29b N (b, bts t) s = some (true, bts (t ++ s)) := by
  rw [F_ws N b (bts t) s (by rw [bts_len]; exact hl) (by rw [← bts_app]; intro e; apply h0; have := congrArg List.length e; rw [bts_len] at this; exact List.eq_nil_of_length_eq_zero this), bts_app]

theorem T_inner (N : Nat) (T : Bs) (c : Ch) (l : List Ch) (n i : Int) (p : List Bs) (hT : T ≠ []) (hl : T.length ≤ 10000000) (hp : p.length ≤ 40) (hN : 5000 < N) :
    W16_7 N ((true, bts T), c, l, n, i, p, (p.length : Int), 0) = some (.brk 0 ((true, bts (T ++ p.flatMap wrdS)), c, l, n, i, p, (p.length : Int), (p.length : Int))) := by
  have := loop_up (R := Bs) (step := fun x => L16_7 N x.1 x.2.1 x.2.2.1 x.2.2.2.1 x.2.2.2.2.1 x.2.2.2.2.2.1 x.2.2.2.2.2.2.1 x.2.2.2.2.2.2.2) p.length (fun k => ((true, bts (T ++ (p.take k).flatMap wrdS)), c, l, n, i, p, (p.length : Int), (k : Int)))
    (fun k hk => by
      unfold L16_7 U16_7
      have hk' : (k : Int) < (p.length : Int) := by omega
      have c1 : inR (k : Int) p.length := ⟨by omega, hk'⟩
      have w1 : IntKind.i64.wrap ((k : Int) + 1) = ((k + 1 : Nat) : Int) := by rw [wrapI (by omega) (by omega)]; omega
      have hat : atI tS p (k : Int) = p[k] := by show p.getD k [] = _; simp [hk]
      have hQ := F_quote N p[k] (by omega)
      have hwl := wrds_len (p.take k)
      rw [List.length_take] at hwl
      have hw1 := wrd_len p[k]
      have hsucc := wrds_succ hk
      have hwd : [32] ++ (if 40 < p[k].length then (([] : Bs), (5 : Int)) else (quoteS p[k], 0)).1 = wrdS p[k] := by
        unfold wrdS
        split <;> rfl
      have hws := F_ws2 N true (T ++ (p.take k).flatMap wrdS) (wrdS p[k]) (by simp only [List.length_append]; omega) (by simp [hT])
      have r1 : room (([32] : Bs).length + (if 40 < p[k].length then (([] : Bs), (5 : Int)) else (quoteS p[k], 0)).1.length) := by
        have e := congrArg List.length hwd
        rw [List.length_append] at e
        show _ ≤ _
        rw [e]; omega
      simp only [ev_br, ev_leaf, ev_cr, ev_c2, ev_ck c1, decide_eq_true hk', if_true, hat, hQ, obind_some, ev_ck r1, hwd, hws, w1]
      rw [hsucc, List.append_assoc])
    (by unfold L16_7 U16_7; simp) N (by omega)
  have e0 : ((true, bts (T ++ (p.take 0).flatMap wrdS)), c, l, n, i, p, (p.length : Int), ((0 : Nat) : Int)) = ((true, bts T), c, l, n, i, p, (p.length : Int), (0 : Int)) := by simp
  rw [e0, List.take_length] at this
  exact this

theorem F_itoa (N : Nat) {m : Int} (h0 : 0 ≤ m) (h9 : m ≤ 1000000000) : F32 N m = some (Lib.itoa m) := by
  unfold F32
  rw [if_pos (by omega)]

theorem F_text (N : Nat) (l : List Ch) (hl : l.length ≤ 1000) (ok : ∀ c ∈ l, okC c) (hN : 5000 < N) : F16 N l = some (chTxt l) := by
  unfold F16 V16
  have := loop_up (R := Bs) (step := fun x => L16_3 N x.1 x.2.1 x.2.2.1 x.2.2.2) l.length (fun i => ((true, bts (chTxt (l.take i))), l, (l.length : Int), (i : Int)))
    (fun i hi => by
      unfold L16_3 U16_3
      have hi' : (i : Int) < (l.length : Int) := by omega
      have c1 : inR (i : Int) l.length := ⟨by omega, hi'⟩
      have w1 : IntKind.i64.wrap ((i : Int) + 1) = ((i + 1 : Nat) : Int) := by rw [wrapI (by omega) (by omega)]; omega
      have hat : atI (.pair tI (.pair (.list tS) tI)) l (i : Int) = l[i] := by show l.getD i _ = _; simp [hi]
      have hoc := ok l[i] (List.getElem_mem hi)
      have hsucc := txt_succ hi
      have htl := txt_len (l := l.take i) fun c hc => ok c (List.mem_of_mem_take hc)
      rw [List.length_take] at htl
      obtain ⟨T, hT⟩ : ∃ T, chTxt (l.take i) = T := ⟨_, rfl⟩
      rw [hsucc]
      rw [hT] at htl ⊢
      obtain ⟨c, hc⟩ : ∃ c, l[i] = c := ⟨_, rfl⟩
      rw [hc] at hoc hat ⊢
      obtain ⟨k, p, m⟩ := c
      obtain ⟨o1, o2, o3⟩ := hoc
      simp only at o1 o2 o3
      have hsl := sgn_len k
      have hwl := wrds_len p
      have hil := itoa_len o2 o3
      have hs1 := F_ws2 N true T (sgnS k) (by omega) (fun e => by have := congrArg List.length e; rw [List.length_append, hsl] at this; simp at this)
      have hin := T_inner N (T ++ sgnS k) (k, p, m) l (l.length : Int) (i : Int) p (fun e => by have := congrArg List.length e; rw [List.length_append, hsl] at this; simp at this) (by simp only [List.length_append]; omega) o1 hN
      obtain ⟨B, hB⟩ : ∃ B, T ++ sgnS k ++ p.flatMap wrdS = B := ⟨_, rfl⟩
      have hBl : B.length ≤ 6700000 := by rw [← hB]; simp only [List.length_append]; omega
      rw [hB] at hin
      have hI := F_itoa N o2 o3
      have n1 := F_ws2 N true B (([32, 40] ++ Lib.itoa m) ++ [41]) (by simp only [List.length_append, List.length_cons, List.length_nil]; omega) (by simp)
      have n2 := F_ws2 N true (B ++ (([32, 40] ++ Lib.itoa m) ++ [41])) [10] (by simp only [List.length_append, List.length_cons, List.length_nil]; omega) (by simp)
      have n3 := F_ws2 N true B [10] (by simp only [List.length_cons, List.length_nil]; omega) (by simp)
      have r1 : room (([32, 40] : Bs).length + (Lib.itoa m).length) := by show _ ≤ _; simp; omega
      have r2 : room ((([32, 40] : Bs) ++ Lib.itoa m).length + ([41] : Bs).length) := by show _ ≤ _; simp; omega
      have fin : T ++ rowS (k, p, m) = B ++ numS k m ++ [10] := by rw [← hB]; unfold rowS; simp
      rw [fin]
      simp only [ev_br, decide_eq_true hi', if_true, ev_ck c1, hat, ev_c1, F_sign, obind_some, ev_cr, hs1, Vt.g1, ev_loop1, hin, lp1_brk, hI, ev_ck r1, ev_ck r2, n1, n2, n3, ev_leaf, w1, bne_iff_ne, ne_eq]
      unfold numS
      by_cases k1 : k = 1
      · subst k1
        simp
      · by_cases k2 : k = 2
        · subst k2
          by_cases m0 : m = 0
          · simp [m0]
          · simp [m0]
        · simp [k1, k2])
    (by unfold L16_3 U16_3; simp) N (by omega)
  have hW : W16_3 N ((true, ([] : List Int)), l, (l.length : Int), 0) = some (.brk 0 ((true, bts (chTxt l)), l, (l.length : Int), (l.length : Int))) := by
    have e0 : ((true, bts (chTxt (l.take 0))), l, (l.length : Int), ((0 : Nat) : Int)) = ((true, ([] : List Int)), l, (l.length : Int), (0 : Int)) := by simp [chTxt, bts]
    rw [e0, List.take_length] at this
    exact this
  simp only [ev_f1, hW, lp1_brk, ev_cr, F_string, obind_some, ev_leaf]

/-! ### The document's -/

theorem dig_one : ∀ d : Nat, d < 10 → strOf [(IntKind.u8.wrap (IntKind.i64.wrap (48 + (d : Int))))] = [UInt8.ofNat (48 + d)] := of_decide_eq_true (by kernel_rfl)
theorem R_digitsG (N : Nat) : ∀ (f u : Nat), u < 10 ^ (f + 1) → u ≤ 4000000000 → (G35 N (f + 1)).1 (u : Int) = some (Lib.decDigits u)
  | f, u, h, h2 => by
    have c0 : (10 : Int) ≠ 0 := by decide
    have e : (G35 N (f + 1)).1 (u : Int) = (V35 N (G35 N f).1 (G35 N f).2 (u : Int)).eval := rfl
    rw [e]
    unfold V35
    have hm : ((u : Int)).tmod 10 = ((u % 10 : Nat) : Int) := by
      rw [Int.tmod_eq_emod_of_nonneg (by omega)]; omega
    have hd : IntKind.i64.wrap (((u : Int)).tdiv 10) = ((u / 10 : Nat) : Int) := by
      rw [Int.tdiv_eq_ediv_of_nonneg (by omega), wrapI (by omega) (by omega)]; omega
    have h1 := dig_one (u % 10) (by omega)
    rw [Lib.decDigits]
    by_cases h9 : u < 10
    · have h9' : ¬ (9 : Int) < (u : Int) := by omega
      have hu : u % 10 = u := by omega
      rw [hu] at h1
      rw [dif_pos h9]
      simp only [ev_ck c0, ev_br, decide_eq_false h9', Bool.false_eq_true, if_false, ev_leaf, hm, h1, hu]
    · have h9' : (9 : Int) < (u : Int) := by omega
      rw [dif_neg h9]
      cases f with
      | zero => omega
      | succ f =>
        have ih := R_digitsG N f (u / 10) (by rw [Nat.pow_succ] at h; omega) (by omega)
        have hl := dec_len 9 (u / 10) (by omega)
        have r1 : room ((Lib.decDigits (u / 10)).length + ([UInt8.ofNat (48 + u % 10)] : Bs).length) := by show _ ≤ _; simp; omega
        simp only [ev_ck c0, ev_br, decide_eq_true h9', if_true, ev_c1, hd, ih, obind_some, hm, h1, ev_ck r1, ev_leaf]
theorem R_digits (N : Nat) {m : Int} (h0 : 0 ≤ m) (h9 : m ≤ 1000000000) (hN : 1000 < N) : F35 N m = some (Lib.itoa m) := by
  obtain ⟨u, rfl⟩ : ∃ u : Nat, m = (u : Int) := ⟨m.toNat, by omega⟩
  obtain ⟨f, rfl⟩ : ∃ f, N = f + 1 := ⟨N - 1, by omega⟩
  unfold F35 Lib.itoa
  rw [if_neg (by omega), Int.toNat_natCast]
  refine R_digitsG (f + 1) f u ?_ (by omega)
  have : (10 : Nat) ^ 10 ≤ 10 ^ (f + 1) := Nat.pow_le_pow_right (by omega) (by omega)
  omega

theorem T_innerR (N : Nat) (T : Bs) (c : Ch) (l : List Ch) (i : Int) (hl : T.length ≤ 10000000) (hp : c.2.1.length ≤ 40) (hw : ∀ w ∈ c.2.1, w.length ≤ 1000) (hN : 5000 < N) :
    W17_15 N (l, T, i, c, 0) = some (.brk 0 (l, T ++ c.2.1.flatMap wrdS, i, c, (c.2.1.length : Int))) := by
  obtain ⟨kd, p, m⟩ := c
  simp only at hp hw ⊢
  have := loop_up (R := Bs) (step := fun x => L17_15 N x.1 x.2.1 x.2.2.1 x.2.2.2.1 x.2.2.2.2) p.length (fun k => (l, T ++ (p.take k).flatMap wrdS, i, (kd, p, m), (k : Int)))
    (fun k hk => by
      unfold L17_15 U17_15
      have hk' : (k : Int) < (p.length : Int) := by omega
      have c1 : inR (k : Int) p.length := ⟨by omega, hk'⟩
      have w1 : IntKind.i64.wrap ((k : Int) + 1) = ((k + 1 : Nat) : Int) := by rw [wrapI (by omega) (by omega)]; omega
      have hat : atI tS p (k : Int) = p[k] := by show p.getD k [] = _; simp [hk]
      have hwl := wrds_len (p.take k)
      rw [List.length_take] at hwl
      have hsucc := wrds_succ hk
      rw [hsucc]
      obtain ⟨B, hB⟩ : ∃ B, T ++ (p.take k).flatMap wrdS = B := ⟨_, rfl⟩
      have hBl : B.length ≤ 10010000 := by rw [← hB]; simp only [List.length_append]; omega
      rw [← List.append_assoc, hB]
      have hwk := hw p[k] (List.getElem_mem hk)
      have hq := quote_len p[k]
      have r1 : room (B.length + ([32] : Bs).length) := by show _ ≤ _; simp; omega
      have r2 : room ((B ++ ([32] : Bs)).length + (quoteS p[k]).length) := by show _ ≤ _; simp; omega
      have hR := R_quote N p[k] (by omega) (by omega)
      unfold wrdS
      by_cases h40 : 40 < p[k].length
      · have h40' : ¬ ((p[k].length : Int) ≤ 40) := by omega
        simp only [ev_br, ev_leaf, ev_ck c1, ev_ck r1, decide_eq_true hk', if_true, hat, decide_eq_false h40', Bool.false_eq_true, if_false, w1, h40]
      · have h40' : ((p[k].length : Int) ≤ 40) := by omega
        simp only [ev_br, ev_leaf, ev_ck c1, ev_ck r1, ev_ck r2, decide_eq_true hk', if_true, hat, decide_eq_true h40', hR, ev_c1, obind_some, w1, h40, if_false]
        simp)
    (by unfold L17_15 U17_15; simp) N (by omega)
  have e0 : (l, T ++ (p.take 0).flatMap wrdS, i, ((kd, p, m) : Ch), ((0 : Nat) : Int)) = (l, T, i, (kd, p, m), (0 : Int)) := by simp
  rw [e0, List.take_length] at this
  exact this

theorem R_text (N : Nat) (l : List Ch) (hl : l.length ≤ 1000) (ok : ∀ c ∈ l, okC c) (hw : ∀ c ∈ l, ∀ w ∈ c.2.1, w.length ≤ 1000) (hN : 5000 < N) : F17 N l = some (chTxt l) := by
  unfold F17 V17
  have := loop_up (R := Bs) (step := fun x => L17_3 N x.1 x.2.1 x.2.2) l.length (fun i => (l, chTxt (l.take i), (i : Int)))
    (fun i hi => by
      unfold L17_3 U17_3
      have hi' : (i : Int) < (l.length : Int) := by omega
      have c1 : inR (i : Int) l.length := ⟨by omega, hi'⟩
      have w1 : IntKind.i64.wrap ((i : Int) + 1) = ((i + 1 : Nat) : Int) := by rw [wrapI (by omega) (by omega)]; omega
      have hat : atI (.pair tI (.pair (.list tS) tI)) l (i : Int) = l[i] := by show l.getD i _ = _; simp [hi]
      have hoc := ok l[i] (List.getElem_mem hi)
      have hwc := hw l[i] (List.getElem_mem hi)
      have hsucc := txt_succ hi
      have htl := txt_len (l := l.take i) fun c hc => ok c (List.mem_of_mem_take hc)
      rw [List.length_take] at htl
      rw [hsucc]
      obtain ⟨T, hT⟩ : ∃ T, chTxt (l.take i) = T := ⟨_, rfl⟩
      rw [hT] at htl ⊢
      obtain ⟨c, hc⟩ : ∃ c, l[i] = c := ⟨_, rfl⟩
      rw [hc] at hoc hat hwc ⊢
      obtain ⟨k, p, m⟩ := c
      obtain ⟨o1, o2, o3⟩ := hoc
      simp only at o1 o2 o3
      have hwl := wrds_len p
      have hil := itoa_len o2 o3
      have hI := R_digits N o2 o3 (by omega)
      have rs : ∀ x : UInt8, room (T.length + ([x] : Bs).length) := fun x => by show _ ≤ _; simp; omega
      have hin := fun x : UInt8 => T_innerR N (T ++ [x]) (k, p, m) l (i : Int) (by simp only [List.length_append, List.length_cons, List.length_nil]; omega) o1 hwc hN
      simp only at hin
      have key : ∀ x : UInt8, sgnS k = [x] → (T ++ rowS (k, p, m) = (T ++ [x] ++ p.flatMap wrdS) ++ numS k m ++ [10]) := fun x hx => by unfold rowS; simp [hx]
      have hBl : ∀ x : UInt8, (T ++ [x] ++ p.flatMap wrdS).length ≤ 6700000 := fun x => by simp only [List.length_append, List.length_cons, List.length_nil]; omega
      have lenX : ∀ X Y : Bs, (X ++ Y).length = X.length + Y.length := fun _ _ => List.length_append
      have q1 : ∀ x : UInt8, room ((T ++ [x] ++ p.flatMap wrdS).length + ([32, 40] : Bs).length) := fun x => by have := hBl x; show _ ≤ _; simp only [List.length_cons, List.length_nil]; omega
      have q2 : ∀ x : UInt8, room ((T ++ [x] ++ p.flatMap wrdS ++ ([32, 40] : Bs)).length + (Lib.itoa m).length) := fun x => by have := hBl x; show _ ≤ _; rw [lenX (T ++ [x] ++ p.flatMap wrdS)]; simp only [List.length_cons, List.length_nil]; omega
      have q3 : ∀ x : UInt8, room ((T ++ [x] ++ p.flatMap wrdS ++ ([32, 40] : Bs) ++ Lib.itoa m).length + ([41] : Bs).length) := fun x => by have := hBl x; show _ ≤ _; rw [lenX (T ++ [x] ++ p.flatMap wrdS ++ ([32, 40] : Bs)), lenX (T ++ [x] ++ p.flatMap wrdS)]; simp only [List.length_cons, List.length_nil]; omega
      have q4 : ∀ x : UInt8, room ((T ++ [x] ++ p.flatMap wrdS ++ ([32, 40] : Bs) ++ Lib.itoa m ++ [41]).length + ([10] : Bs).length) := fun x => by have := hBl x; show _ ≤ _; rw [lenX (T ++ [x] ++ p.flatMap wrdS ++ ([32, 40] : Bs) ++ Lib.itoa m), lenX (T ++ [x] ++ p.flatMap wrdS ++ ([32, 40] : Bs)), lenX (T ++ [x] ++ p.flatMap wrdS)]; simp only [List.length_cons, List.length_nil]; omega
      have q5 : ∀ x : UInt8, room ((T ++ [x] ++ p.flatMap wrdS).length + ([10] : Bs).length) := fun x => by have := hBl x; show _ ≤ _; simp only [List.length_cons, List.length_nil]; omega
      simp only [ev_br, decide_eq_true hi', if_true, ev_ck c1, hat, ev_ck (rs _), Vt.g1, ev_loop1, hin, lp1_brk, ev_ck (q1 _), ev_ck (q2 _), ev_ck (q3 _), ev_ck (q4 _), ev_ck (q5 _), ev_c1, hI, obind_some, ev_leaf, w1, beq_iff_eq, bne_iff_ne, ne_eq, decide_eq_true_eq]
      by_cases k1 : k = 1
      · subst k1
        rw [key 45 rfl]
        unfold numS
        simp
      · by_cases k2 : k = 2
        · subst k2
          rw [key 43 rfl]
          unfold numS
          by_cases m0 : m = 0
          · simp [m0]
          · simp [m0]
        · by_cases k3 : k = 3
          · subst k3
            rw [key 33 rfl]
            unfold numS
            simp
          · have hs : sgnS k = [63] := by unfold sgnS; rw [if_neg k1, if_neg k2, if_neg k3]
            rw [key 63 hs]
            unfold numS
            rw [if_neg k1, if_neg k2, if_neg k3]
            by_cases k4 : k < 1
            · simp [k4, k1, k2]
            · have k5 : 2 < k := by omega
              simp [k4, k5, k1, k2])
    (by unfold L17_3 U17_3; simp) N (by omega)
  have hW : W17_3 N (l, ([] : Bs), 0) = some (.brk 0 (l, chTxt l, (l.length : Int))) := by
    have e0 : (l, chTxt (l.take 0), ((0 : Nat) : Int)) = (l, ([] : Bs), (0 : Int)) := by simp [chTxt]
    rw [e0, List.take_length] at this
    exact this
  simp only [ev_f1, hW, lp1_brk, ev_leaf]

end Go.Proofs.YtncgafojgdemdaaDoor.Vc
