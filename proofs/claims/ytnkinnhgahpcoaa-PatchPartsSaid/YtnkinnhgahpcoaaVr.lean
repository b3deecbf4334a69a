/-
  THE CONDITION IS SOUND, THIRD PART: the rest of the operations that make one value; cuts, arithmetic, texts, structs that are built.
  No condition: the lemmas hold for every program.
-/
import Derived.ChangeKeysEq
import Derived.Test.YtnkinnhgahpcoaaVq
import Derived.Lib.Strings
import Derived.Lib.SmallJoins
import Derived.Laws.BytesString
namespace Go.Proofs.Ytnkinnhgahpcoaa.Vc
open Go.RowKit

section
variable {P : Program} {w0 : W0 P} {w : World} {F0 F : Nat → Prop} {M : Nat → Option MO} {σ : St} {a : Act} {o : Oper} {K : D → Prop}

/-! ### Cuts -/

theorem opt_spec (h : Inv w0 F0 F M σ a w) {x : Option Operand} {d n : Int} (hx : optI (x.map (ev σ)) d = some n) : (x = none ∧ n = d) ∨ ∃ k, x.map a.eval = some (.int k n) := by
  cases x with
  | none => left; exact ⟨rfl, by simpa [optI] using hx.symm⟩
  | some y =>
    right
    simp only [Option.map_some, optI] at hx
    split at hx <;> rename_i h2
    · cases h2
    · rename_i k m
      have hy := h.ev y
      simp only [Option.some.injEq] at h2 hx
      rw [h2] at hy
      exact ⟨k, by simp [hy.int, hx]⟩
    · cases hx

theorem run_sliceBounds {b : Bool} {len cap : Nat} {lo hi : Option Value} {l h : Int} (hl : (lo = none ∧ l = 0) ∨ ∃ k, lo = some (.int k l)) (hh : (hi = none ∧ h = len) ∨ ∃ k, hi = some (.int k h))
    (h1 : 0 ≤ l) (h2 : l ≤ h) (h3 : h ≤ len) (h4 : len ≤ cap) (w' : World) : (Instr.sliceBounds b len cap lo hi none).run P w' = .ok (l.toNat, h.toNat, cap) w' := by
  have h7 : 0 ≤ h := by omega
  obtain ⟨m, rfl⟩ := Int.eq_ofNat_of_zero_le h1
  obtain ⟨n, rfl⟩ := Int.eq_ofNat_of_zero_le h7
  have h5 : m ≤ n := by omega
  have h6 : n ≤ cap := by omega
  rcases hl with ⟨rfl, hl⟩ | ⟨k, rfl⟩ <;> rcases hh with ⟨rfl, hh⟩ | ⟨k', rfl⟩
  · obtain rfl : m = 0 := by omega
    obtain rfl : n = len := by omega
    simp [Instr.sliceBounds]
  · obtain rfl : m = 0 := by omega
    simp [Instr.sliceBounds, Instr.sliceBound, run_asIntOf, h6]
  · obtain rfl : n = len := by omega
    simp [Instr.sliceBounds, Instr.sliceBound, run_asIntOf, h5]
  · simp [Instr.sliceBounds, Instr.sliceBound, run_asIntOf, h5, h6]

theorem slc_get {α : Type} {l : List α} {x y : Int} {i : Nat} {u : α} (h : (slc l x y)[i]? = some u) : l[x.toNat + i]? = some u ∧ i < y.toNat - x.toNat := by
  unfold slc at h
  rw [List.getElem?_take] at h
  split at h
  · rw [List.getElem?_drop] at h; exact ⟨h, ‹_›⟩
  · cases h

theorem slc_len {α : Type} (l : List α) {x y : Int} (_h1 : 0 ≤ x) (h2 : x ≤ y) (h3 : y ≤ l.length) : (slc l x y).length = y.toNat - x.toNat := by
  unfold slc; rw [List.length_take, List.length_drop]; omega

theorem cut_sound {F' : Nat → Prop} {M' : Nat → Option MO} (h : Inv w0 F0 F M σ a w) {t : TypeId} {v : Value} {x : D} {lo hi mx : Option Operand} (hx : R w F' M' v x) (hk : cutD P t x (lo.map (ev σ)) (hi.map (ev σ)) (mx.map (ev σ)) K) :
    Yields P F' M' w (Instr.sliceAt t v (lo.map a.eval) (hi.map a.eval) (mx.map a.eval)) K := by
  have opt' : ∀ {y : Option Operand} {d n : Int}, optI (y.map (ev σ)) d = some n → (y.map a.eval = none ∧ n = d) ∨ ∃ k, y.map a.eval = some (.int k n) := fun {y d n} hy => by
    rcases opt_spec h hy with ⟨rfl, h2⟩ | h2
    · exact .inl ⟨rfl, h2⟩
    · exact .inr h2
  unfold cutD at hk
  split at hk
  · rename_i hm
    have hmx : mx.map a.eval = none := by cases mx <;> simp_all
    split at hk
    · rename_i l
      split at hk
      · rename_i hst
        split at hk
        · rename_i x y e1 e2
          obtain ⟨⟨h1, h2, h3⟩, hk⟩ := hk
          obtain ⟨s, rfl, rfl⟩ := hx.str
          have hlen : s.size = s.data.toList.length := Lib.size_eq s
          refine ⟨.string (s.extract x.toNat y.toNat), _, hk, ⟨_, rfl, Lib.extract_data s _ _⟩, fun w' _ => ?_⟩
          have hb := run_sliceBounds (P := P) (b := false) (len := s.size) (cap := s.size) (opt' e1) (by rw [hlen]; exact opt' e2) h1 h2 (by rw [hlen]; exact h3) (Nat.le_refl _) w'
          simp [Instr.sliceAt, run_underlying (isStr_spec hst), Instr.slice, hmx, hb]
        · exact hk.elim
      · exact hk.elim
    · rename_i u l
      split at hk
      · rename_i e he
        cases hbq : Nat.beq (sizeT P e) u.width with
        | false => rw [hbq] at hk; exact hk.elim
        | true =>
          rw [hbq] at hk
          obtain ⟨inf, hinf, hsz⟩ := size_spec hbq (width_pos u)
          have hk' : (match optI (lo.map (ev σ)) 0, optI (hi.map (ev σ)) l.length with
            | some a, some b => (0 ≤ a ∧ a ≤ b ∧ b ≤ (l.length : Int)) ∧ K (.val (.list u) (slc l a b))
            | _, _ => False) := hk
          split at hk'
          · rename_i x y e1 e2
            obtain ⟨⟨h1, h2, h3⟩, hk⟩ := hk'
            obtain ⟨A, c, rfl, hc, hm2, hel⟩ := hx.list
            have hl := slc_len l h1 h2 h3
            refine ⟨.slice (if c = x.toNat then A else A.map (·.add (x.toNat * u.width))) (y.toNat - x.toNat) (c - x.toNat), _, hk, ⟨if c = x.toNat then A else A.map (·.add (x.toNat * u.width)), c - x.toNat, ?_, ?_, ?_, fun i z hz => ?_⟩, fun w' _ => ?_⟩
            · rw [hl]
            · rw [hl]; omega
            · omega
            · obtain ⟨hz, hlt⟩ := slc_get hz
              obtain ⟨ad, us, rfl, h5, h6, h7⟩ := hel _ _ hz
              rw [if_neg (by omega)]
              refine ⟨_, us, rfl, by rw [add_block]; exact h5, h6, ?_⟩
              rw [add_add, ← Nat.add_mul]
              exact h7
            · have hb := run_sliceBounds (P := P) (b := true) (len := l.length) (cap := c) (opt' e1) (opt' e2) h1 h2 h3 hc w'
              simp [Instr.sliceAt, run_underlying (elem_spec he), Instr.slice, hmx, hb, sizeOf, typeInfo, hinf, hsz]
          · exact hk'.elim
      · exact hk.elim
    · exact hk.elim
  · rename_i k m hm
    have hmx : mx.map a.eval = some (.int k m) := by
      cases mx with
      | none => cases hm
      | some y =>
        have hy := h.ev y
        simp only [Option.map_some, Option.some.injEq] at hm
        rw [hm] at hy
        simp [hy.int]
    split at hk
    · rename_i u l x y e1 e2
      split at hk
      · rename_i e he
        cases hbq : Nat.blt 0 (sizeT P e) with
        | false => rw [hbq] at hk; exact hk.elim
        | true =>
          rw [hbq] at hk
          obtain ⟨⟨rfl, rfl, rfl⟩, hk⟩ := hk
          obtain ⟨A, c, rfl, hc, hm2, hel⟩ := hx.list
          have hpos : 0 < sizeT P e := by simpa [Nat.blt_eq] using hbq
          have : ∃ i, P.info? e = some i := by
            unfold sizeT at hpos
            split at hpos
            · exact ⟨_, ‹_›⟩
            · omega
          obtain ⟨inf, hinf⟩ := this
          refine ⟨.slice A 0 0, _, hk, ⟨A, rfl⟩, fun w' _ => ?_⟩
          have hlo := opt' e1
          have hhi := opt' e2
          have hhi' : ∃ k, hi.map a.eval = some (.int k 0) := by
            rcases hhi with ⟨_, h2⟩ | h2
            · cases h2
            · exact h2
          obtain ⟨k', hhi'⟩ := hhi'
          rcases hlo with ⟨hl, _⟩ | ⟨k'', hl⟩ <;> simp [Instr.sliceAt, run_underlying (elem_spec he), Instr.slice, hmx, hl, hhi', Instr.sliceBounds, Instr.sliceBound, run_asIntOf, sizeOf, typeInfo, hinf]
      · exact hk.elim
    · exact hk.elim
  · exact hk.elim

theorem q_slice (h : Inv w0 F0 F M σ a w) {t : TypeId} {x : Operand} {lo hi mx : Option Operand} (ho : o.op = .slice t x lo hi mx)
    (hk : cutD P t (ev σ x) (lo.map (ev σ)) (hi.map (ev σ)) (mx.map (ev σ)) K) : QY P F M a w o K :=
  (cut_sound h (h.ev x) hk).qy (by unfold execOp; rw [ho])

/-! ### Arithmetic, comparisons, texts -/

theorem ints_sound {op : BinOp} {k : IntKind} {x y : Int} (hs : op ≠ .shl ∧ op ≠ .shr) (t : TypeId) (p q : Operand) (hk : intsD op k x y K) :
    Yields P F M w (do eqGuard op t p q (.int k x) (.int k y); binOp op t (.int k x) (.int k y)) K := by
  have hg : ∀ w', (eqGuard op t p q (.int k x) (.int k y)).run P w' = .ok () w' := fun w' => by unfold eqGuard; cases op <;> simp
  refine Yields.of_eq (s' := binOp op t (.int k x) (.int k y)) ?_ (fun w' _ => by rw [Sem.run_bind, hg]; rfl)
  unfold intsD at hk
  cases op <;> dsimp only at hk <;> first | exact hk.elim | exact absurd rfl hs.1 | exact absurd rfl hs.2 | skip
  case quo => exact ⟨_, _, hk.2, rfl, fun w' _ => by simp [binOp, Op.intDiv, hk.1]⟩
  case rem => exact ⟨_, _, hk.2, rfl, fun w' _ => by simp [binOp, Op.intDiv, hk.1]⟩
  all_goals exact ⟨_, _, hk, rfl, fun w' _ => by simp [binOp, Op.intArith, Op.intBits, Op.intCmp]⟩

theorem shift_sound {op : BinOp} {k k' : IntKind} {x y : Int} (t : TypeId) (p q : Operand) (h0 : 0 ≤ y)
    (hk : (op = .shl ∧ K (.val (.int k) (k.wrap (x * 2 ^ (min y.toNat k.bits))))) ∨ (op = .shr ∧ K (.val (.int k) (x.fdiv (2 ^ (min y.toNat k.bits)))))) :
    Yields P F M w (do eqGuard op t p q (.int k x) (.int k' y); binOp op t (.int k x) (.int k' y)) K := by
  have hn : ¬ y < 0 := by omega
  rcases hk with ⟨rfl, hk⟩ | ⟨rfl, hk⟩
  · exact ⟨_, _, hk, rfl, fun w' _ => by simp [eqGuard, binOp, Op.shift, hn]⟩
  · exact ⟨_, _, hk, rfl, fun w' _ => by simp [eqGuard, binOp, Op.shift, hn]⟩

theorem strs_sound {op : BinOp} {x y : ByteArray} (t : TypeId) (p q : Operand) (hk : strsD op x.data.toList y.data.toList K) :
    Yields P F M w (do eqGuard op t p q (.string x) (.string y); binOp op t (.string x) (.string y)) K := by
  have hg : ∀ w', (eqGuard op t p q (.string x) (.string y)).run P w' = .ok () w' := fun w' => by unfold eqGuard; cases op <;> simp
  refine Yields.of_eq (s' := binOp op t (.string x) (.string y)) ?_ (fun w' _ => by rw [Sem.run_bind, hg]; rfl)
  unfold strsD at hk
  cases op <;> dsimp only at hk <;> first | exact hk.elim | skip
  case add =>
    obtain ⟨hr, hk⟩ := hk
    have h1 : x.size + y.size ≤ 1073741824 := by rw [Lib.size_eq, Lib.size_eq]; exact hr
    refine ⟨.string (x ++ y), _, hk, ⟨_, rfl, Joins.data_append x y⟩, fun w' _ => ?_⟩
    have h2 : ¬ (((x.size + y.size : Nat) : Int) > IntKind.i64.max) := by
      have e : IntKind.i64.max = 9223372036854775807 := by kernel_rfl
      omega
    show (Op.stringOp .add x y).run P w' = _
    unfold Op.stringOp
    dsimp only
    rw [if_neg h2]
    rfl
  all_goals exact ⟨_, _, hk, rfl, fun w' _ => by simp [binOp, Op.stringOp, Lib.toList_data]⟩

theorem bools_sound {op : BinOp} {x y : Bool} {t : TypeId} (ht : P.underlying t = some .bool) (p q : Operand) (hk : boolsD op x y K) :
    Yields P F M w (do eqGuard op t p q (.bool x) (.bool y); binOp op t (.bool x) (.bool y)) K := by
  have hg : ∀ w', (eqGuard op t p q (.bool x) (.bool y)).run P w' = .ok () w' := fun w' => by unfold eqGuard; cases op <;> simp
  refine Yields.of_eq (s' := binOp op t (.bool x) (.bool y)) ?_ (fun w' _ => by rw [Sem.run_bind, hg]; rfl)
  have hd : ∀ (d : Nat) w', (Op.equalIn (d + 1) t (.bool x) (.bool y)).run P w' = .ok (x == y) w' := fun d w' => by simp [Op.equalIn, run_underlying ht]
  have he : ∀ w', (Op.equal t (.bool x) (.bool y)).run P w' = .ok (x == y) w' := fun w' => hd 9999 w'
  unfold boolsD at hk
  cases op <;> dsimp only at hk <;> first | exact hk.elim | skip
  all_goals exact ⟨_, _, hk, rfl, fun w' _ => by simp [binOp, he]⟩

theorem eqFields_sound {us vs : Array Value} {cs ds : List D} (hu : ∀ (j : Nat) c, cs[j]? = some c → ∃ u, us[j]? = some u ∧ u.oneCell' = true ∧ R0 w F M u c)
    (hv : ∀ (j : Nat) c, ds[j]? = some c → ∃ u, vs[j]? = some u ∧ u.oneCell' = true ∧ R0 w F M u c) (d : Nat) :
    ∀ (fs : List Field) (r : Bool), eqCells P fs cs ds = some r → ∀ w', (Op.eqFields (d + 1) us vs fs).run P w' = .ok r w'
  | [], r, h, w' => by
    have : true = r := by simpa [eqCells] using h
    subst this
    simp [Op.eqFields]
  | f :: fs, r, h, w' => by
    have step : ∀ {x y : Value} {r1 r' : Bool}, (f.name != "_") = true → us[f.offset]? = some x → vs[f.offset]? = some y → P.plainKey f.type = true → (Op.equalIn (d + 1) f.type x y).run P w' = .ok r1 w' →
        (Op.eqFields (d + 1) us vs fs).run P w' = .ok r' w' → (Op.eqFields (d + 1) us vs (f :: fs)).run P w' = .ok (r1 && r') w' := by
      intro x y r1 r' hn h1 h2 h3 h4 h5
      have hn' : f.name ≠ "_" := by simpa using hn
      unfold Op.eqFields
      rw [if_pos hn']
      simp only [Sem.run_bind, run_part_plain w' h3 h1, run_part_plain w' h3 h2, h4, Result.andThen_ok]
      cases r1
      · simp
      · simpa using h5
    unfold eqCells at h
    split at h
    · rename_i a b hn ht hc hd
      split at h
      · rename_i r' hr
        cases h
        obtain ⟨u, h1, _, h2⟩ := hu _ _ hc
        obtain ⟨v, h3, _, h4⟩ := hv _ _ hd
        cases R.bool (w := w) (F := F) (M := M) (b := a) h2
        cases R.bool (w := w) (F := F) (M := M) (b := b) h4
        exact step hn h1 h3 (by simp [Program.plainKey, ht]) (run_equalIn_bool w' d f.type a b ht) (eqFields_sound hu hv d fs r' hr w')
      · cases h
    · rename_i q k a k' b hn ht hc hd
      split at h
      · rename_i r' hk hr
        cases h
        have hk' := of_decide_eq_true hk
        subst hk'
        obtain ⟨u, h1, _, h2⟩ := hu _ _ hc
        obtain ⟨v, h3, _, h4⟩ := hv _ _ hd
        cases R.int (w := w) (F := F) (M := M) (k := k) (n := a) h2
        cases R.int (w := w) (F := F) (M := M) (k := k) (n := b) h4
        exact step hn h1 h3 (by simp [Program.plainKey, ht]) (run_equalIn_int w' d f.type k q a b ht) (eqFields_sound hu hv d fs r' hr w')
      · cases h
    · rename_i a b hn ht hc hd
      split at h
      · rename_i r' hr
        cases h
        obtain ⟨u, h1, _, h2⟩ := hu _ _ hc
        obtain ⟨v, h3, _, h4⟩ := hv _ _ hd
        obtain ⟨s1, rfl, e1⟩ := R.str (w := w) (F := F) (M := M) (l := a) h2
        obtain ⟨s2, rfl, e2⟩ := R.str (w := w) (F := F) (M := M) (l := b) h4
        subst e1 e2
        refine step hn h1 h3 (by simp [Program.plainKey, ht]) ?_ (eqFields_sound hu hv d fs r' hr w')
        have := run_equalIn_string (P := P) w' d f.type s1 s2 ht
        rw [Lib.toList_data, Lib.toList_data] at this
        exact this
      · cases h
    · cases h

theorem aggs_sound {op : BinOp} {t : TypeId} {us vs : Array Value} {cs ds : List D} (p q : Operand) (hu : ∀ (j : Nat) c, cs[j]? = some c → ∃ u, us[j]? = some u ∧ u.oneCell' = true ∧ R0 w F M u c)
    (hv : ∀ (j : Nat) c, ds[j]? = some c → ∃ u, vs[j]? = some u ∧ u.oneCell' = true ∧ R0 w F M u c) (hk : aggD P op t cs ds K) :
    Yields P F M w (do eqGuard op t p q (.agg us) (.agg vs); binOp op t (.agg us) (.agg vs)) K := by
  unfold aggD at hk
  split at hk
  · rename_i fs ht
    split at hk
    · rename_i r h1 h2 h3
      have hg : ∀ w', (eqGuard op t p q (.agg us) (.agg vs)).run P w' = .ok () w' := fun w' => by
        unfold eqGuard; cases op <;> simp [h2]
      refine Yields.of_eq (s' := binOp op t (.agg us) (.agg vs)) ?_ (fun w' _ => by rw [Sem.run_bind, hg]; rfl)
      have hfs : P.fieldsOf t = fs := by simp [Program.fieldsOf, ht]
      have he : ∀ w', (Op.equal t (.agg us) (.agg vs)).run P w' = .ok r w' := fun w' => by
        have e1 := run_equalIn_struct w' 9999 t us vs (by rw [hfs]; exact ht) h1
        rw [hfs] at e1
        exact e1.trans (eqFields_sound hu hv 9998 fs.toList r h3 w')
      cases op <;> dsimp only at hk <;> first | exact hk.elim | skip
      · exact ⟨_, _, hk, rfl, fun w' _ => by simp [binOp, he]⟩
      · exact ⟨_, _, hk, rfl, fun w' _ => by simp [binOp, he]⟩
    · exact hk.elim
  · exact hk.elim

theorem q_binOp (h : Inv w0 F0 F M σ a w) {op : BinOp} {t t' : TypeId} {x y : Operand} (ho : o.op = .binOp op t x y t') (hk : binD P op t (ev σ x) (ev σ y) K) : QY P F M a w o K := by
  have key : Yields P F M w (do eqGuard op t x y (a.eval x) (a.eval y); binOp op t (a.eval x) (a.eval y)) K → QY P F M a w o K := fun hy => hy.qy (by unfold execOp; rw [ho])
  have hx := h.ev x
  have hy := h.ev y
  unfold binD at hk
  split at hk
  · rename_i k m k' n hb1 hb2
    rw [hb1] at hx
    rw [hb2] at hy
    rw [hx.int, hy.int] at key
    split at hk
    · exact key (shift_sound t x y hk.1 (.inl ⟨rfl, hk.2⟩))
    · exact key (shift_sound t x y hk.1 (.inr ⟨rfl, hk.2⟩))
    · rename_i h1 h2
      by_cases hkk : k = k'
      · subst hkk
        rw [decide_eq_true rfl] at hk
        exact key (ints_sound ⟨h1, h2⟩ t x y hk)
      · rw [decide_eq_false hkk] at hk
        exact hk.elim
  · rename_i m n hb1 hb2
    rw [hb1] at hx
    rw [hb2] at hy
    obtain ⟨s1, e1, rfl⟩ := hx.str
    obtain ⟨s2, e2, rfl⟩ := hy.str
    rw [e1, e2] at key
    exact key (strs_sound t x y hk)
  · rename_i m n hb1 hb2
    rw [hb1] at hx
    rw [hb2] at hy
    rw [hx.bool, hy.bool] at key
    split at hk
    · rename_i hbt
      refine key (bools_sound ?_ x y hk)
      unfold isBoolT at hbt
      split at hbt
      · assumption
      · cases hbt
    · exact hk.elim
  · rename_i cs ds hb1 hb2
    rw [hb1] at hx
    rw [hb2] at hy
    obtain ⟨us, e1, _, h1⟩ := hx
    obtain ⟨vs, e2, _, h2⟩ := hy
    rw [e1, e2] at key
    exact key (aggs_sound x y h1 h2 hk)
  · exact hk.elim

theorem q_nilOp (h : Inv w0 F0 F M σ a w) {op : BinOp} {t t' : TypeId} {x y : Operand} (ho : o.op = .binOp op t x y t') (hy : isNilC y = true) (hk : nilD P op t (ev σ x) K) : QY P F M a w o K := by
  have hyc : y = .const (.slice none 0 0) := by
    unfold isNilC at hy
    split at hy
    · rfl
    · cases hy
  subst hyc
  have hx := h.ev x
  have key : Yields P F M w (do eqGuard op t x (.const (.slice none 0 0)) (a.eval x) (a.eval (.const (.slice none 0 0))); binOp op t (a.eval x) (a.eval (.const (.slice none 0 0)))) K → QY P F M a w o K := fun hy => hy.qy (by unfold execOp; rw [ho])
  have hev : a.eval (.const (.slice none 0 0)) = .slice none 0 0 := rfl
  rw [hev] at key
  unfold nilD at hk
  split at hk
  · rename_i u xs hb
    rw [hb] at hx
    split at hk
    · rename_i e he
      have ht : P.underlying t = some (.slice e) := by
        unfold elemT at he
        split at he
        · rename_i e' h1; rw [h1]; cases he; rfl
        · cases he
      obtain ⟨A, c, hv, _, _, hel⟩ := hx
      have hv' : a.eval x = .slice A xs.length c := by simpa using hv
      rw [hv'] at key
      have hg : ∀ w', (eqGuard op t x (.const (.slice none 0 0)) (.slice A xs.length c) (.slice none 0 0)).run P w' = .ok () w' := fun w' => by unfold eqGuard; cases op <;> simp
      have he' : ∀ w', (Op.equal t (.slice A xs.length c) (.slice none 0 0)).run P w' = .ok A.isNone w' := fun w' => by
        have hd : ∀ d, (Op.equalIn (d + 1) t (.slice A xs.length c) (.slice none 0 0)).run P w' = .ok A.isNone w' := fun d => by
          cases A <;> simp [Op.equalIn, run_underlying ht]
        exact hd 9999
      have hnil : A.isNone = true → xs = [] := fun hA => by
        cases xs with
        | nil => rfl
        | cons x0 r =>
          obtain ⟨a0, us, h1, _⟩ := hel 0 x0 rfl
          rw [h1] at hA; cases hA
      refine key (Yields.of_eq (s' := binOp op t (.slice A xs.length c) (.slice none 0 0)) ?_ (fun w' _ => by rw [Sem.run_bind, hg]; rfl))
      split at hk
      · cases hA : A.isNone with
        | true => exact ⟨.bool true, _, hk.1 (hnil hA), rfl, fun w' _ => by simp [binOp, he', hA]⟩
        | false => exact ⟨.bool false, _, hk.2, rfl, fun w' _ => by simp [binOp, he', hA]⟩
      · cases hA : A.isNone with
        | true => exact ⟨.bool false, _, hk.1 (hnil hA), rfl, fun w' _ => by simp [binOp, he', hA]⟩
        | false => exact ⟨.bool true, _, hk.2, rfl, fun w' _ => by simp [binOp, he', hA]⟩
      · exact hk.elim
    · exact hk.elim
  · exact hk.elim

theorem q_unOp (h : Inv w0 F0 F M σ a w) {op : UnOp} {t : TypeId} {x : Operand} (ho : o.op = .unOp op t x) (hk : unD op (ev σ x) K) : QY P F M a w o K := by
  have hx := h.ev x
  unfold unD at hk
  split at hk
  · rename_i b hb
    rw [hb] at hx
    have e := hx.bool
    exact ⟨_, _, hk, rfl, fun w' _ => by unfold execOp; rw [ho]; simp [e, Op.unary]⟩
  · rename_i k n hb
    rw [hb] at hx
    have e := hx.int
    exact ⟨_, _, hk, rfl, fun w' _ => by unfold execOp; rw [ho]; simp [e, Op.unary, Op.intArith]⟩
  · exact hk.elim

theorem q_convert (h : Inv w0 F0 F M σ a w) {src dst : TypeId} {x : Operand} (ho : o.op = .convert src dst x) (hk : convD P src dst (ev σ x) K) : QY P F M a w o K := by
  have hx := h.ev x
  unfold convD at hk
  split at hk
  · rename_i k' k k'' n h1 h2 hb
    rw [hb] at hx
    have e := hx.int
    exact ⟨_, _, hk, rfl, fun w' _ => by unfold execOp; rw [ho]; simp [e, convert, run_underlying h1, run_underlying h2, Conv.intToInt]⟩
  · rename_i l h1 h2 hb
    rw [hb] at hx
    obtain ⟨s, e, rfl⟩ := hx.str
    exact ⟨.string s, _, hk, ⟨s, rfl, rfl⟩, fun w' _ => by unfold execOp; rw [ho]; simp [e, convert, run_underlying h1, run_underlying h2]⟩
  · exact hk.elim

theorem foldl_strOf : ∀ (ns : List Int) (acc : ByteArray), (ns.foldl (fun r n => r.push (UInt8.ofNat n.toNat)) acc).data.toList = acc.data.toList ++ strOf ns
  | [], acc => by simp [strOf]
  | n :: ns, acc => by
    rw [List.foldl_cons, foldl_strOf ns]
    simp [strOf, ByteArray.push]

theorem isBytesT_spec {t : TypeId} (h : isBytesT P t = true) : ∃ e, P.underlying t = some (.slice e) ∧ P.underlying e = some (.int .u8) := by
  unfold isBytesT at h
  split at h
  · rename_i e he
    split at h
    · rename_i h2; exact ⟨e, he, h2⟩
    · cases h
  · cases h

/-- Bytes, turned into a text. -/
theorem conb_run {F1 : Nat → Prop} {src dst : TypeId} (hs : isBytesT P src = true) (hd : isStrT P dst = true) {xs : List Int} {v : Value} (h : RV w F1 (.list (.int .u8)) xs [v]) :
    (convert src dst v).run P w = .ok (.string ⟨(strOf xs).toArray⟩) w := by
  obtain ⟨e, h1, h2⟩ := isBytesT_spec hs
  have h3 := isStr_spec hd
  obtain ⟨A, c, h4, _, _, h5⟩ := h
  have hv : v = .slice A xs.length c := by simpa using h4
  subst hv
  rw [run_convert_bytes_string w src dst e A xs.length c h1 h2 h3]
  cases A with
  | none =>
    cases xs with
    | nil => simp [Conv.bytesToString, strOf]; rfl
    | cons x r =>
      obtain ⟨a, us, ha, _⟩ := h5 0 x rfl
      cases ha
  | some a =>
    have hl := run_loadCells_list (P := P) w a (xs.map (Value.int .u8)) (fun j u hj => by
      rw [List.getElem?_map] at hj
      obtain ⟨x, hx, rfl⟩ := Option.map_eq_some_iff.1 hj
      obtain ⟨a', us, ha, _, h6, h7⟩ := h5 j x hx
      cases ha
      have h6' : us = [Value.int .u8 x] := h6
      subst h6'
      have := (h7 0 _ rfl).1
      rw [add_add] at this
      simpa [Ty.width] using this)
    rw [List.length_map] at hl
    rw [run_bytesToString w a xs.length c xs hl]
    congr 2
    have := foldl_strOf xs ByteArray.empty
    generalize xs.foldl (fun r n => r.push (UInt8.ofNat n.toNat)) ByteArray.empty = s at *
    cases s
    congr 1
    apply Array.toList_inj.1
    simpa using this

theorem conb_sound (hlt : ∀ g, F g → g < w.heap.size) {F1 : Nat → Prop} (hF1 : ∀ g, F1 g → g < w.heap.size) {src dst : TypeId} {x : Operand} (ho : o.op = .convert src dst x) {d : D} (hk : conbD P src dst d K)
    (hr : ∀ xs : List Int, (d = .nils ∧ xs = []) ∨ d = .val (.list (.int .u8)) xs → RV w F1 (.list (.int .u8)) xs [a.eval x]) : QY P F M a w o K := by
  have fin : ∀ xs : List Int, isBytesT P src = true → isStrT P dst = true → RV w F1 (.list (.int .u8)) xs [a.eval x] → K (vs (strOf xs)) → QY P F M a w o K := fun xs h1 h2 h3 hk =>
    ⟨.string ⟨(strOf xs).toArray⟩, _, hk, ⟨_, rfl, by simp⟩, fun w' hb => by
      unfold execOp; rw [ho]
      have := conb_run h1 h2 (h3.keep (w' := w') (F' := F1) (fun g hg => hb.block g (hF1 g hg)) fun _ z => z)
      simp [this]⟩
  unfold conbD at hk
  split at hk
  · rename_i h1 h2
    split at hk
    · rename_i xs
      exact fin xs h1 h2 (hr xs (.inr rfl)) hk
    · exact fin [] h1 h2 (hr [] (.inl ⟨rfl, rfl⟩)) hk
    · exact hk.elim
  · exact hk.elim

theorem q_conv (h : Inv w0 F0 F M σ a w) {src dst : TypeId} {x : Operand} (ho : o.op = .convert src dst x) (hk : wpq P σ (.convert src dst x) K) : QY P F M a w o K := by
  unfold wpq at hk
  dsimp only at hk
  have hx := h.ev x
  split at hk
  · rename_i i hb
    rw [hb] at hx
    obtain ⟨mo, hm, hv, _⟩ := hx
    refine conb_sound (F1 := fun b => F b ∨ mo.g = some b) (fun g hg => (h.flt g hg).1) (fun g hg => ?_) ho hk fun xs hxs => ?_
    · rcases hg with hg | hg
      · exact (h.flt g hg).1
      · exact (h.mine _ _ _ hm hg).2.2
    · unfold snap0 at hxs
      cases hf : findOb σ.ob i with
      | none => simp [hf] at hxs
      | some q =>
        cases q
        case cells p T cs => simp [hf] at hxs
        case arr t ys => simp [hf] at hxs
        case buf e ys => simp [hf] at hxs
        case row pn e u ys =>
          cases pn with
          | true => simp [hf] at hxs
          | false =>
            simp only [hf] at hxs
            rcases hxs with ⟨hxs, _⟩ | hxs
            · cases hxs
            · obtain ⟨mo', hm', hmk, hown⟩ := h.obs _ _ hf
              have : mo' = mo := Option.some.inj (hm'.symm.trans hm)
              subst this
              injection hxs with e1 e2
              injection e1 with e1
              subst e1
              have e2 := eq_of_heq e2
              subst e2
              rw [hv]
              exact hown.reads (fun _ y => Or.inl y) fun g hg => Or.inr hg
  · rename_i hb
    rw [hb] at hx
    obtain ⟨A, hv⟩ := hx
    refine conb_sound (F1 := F) (fun g hg => (h.flt g hg).1) (fun g hg => (h.flt g hg).1) ho hk fun xs hxs => ?_
    rcases hxs with ⟨_, rfl⟩ | hxs
    · rw [hv]; exact ⟨A, 0, rfl, Nat.le_refl _, by simp [maxLen], fun i y hy => by simp at hy⟩
    · cases hxs
  · rename_i u xs hb
    rw [hb] at hx
    refine conb_sound (F1 := F) (fun g hg => (h.flt g hg).1) (fun g hg => (h.flt g hg).1) ho hk fun ys hys => ?_
    rcases hys with ⟨hys, _⟩ | hys
    · cases hys
    · rw [hys] at hx
      exact hx
  · exact q_convert h ho hk

theorem q_extract (h : Inv w0 F0 F M σ a w) {x : Operand} {i : Nat} (ho : o.op = .extract x i) (hk : wpq P σ (.extract x i) K) : QY P F M a w o K := by
  unfold wpq at hk
  dsimp only at hk
  have hx := h.ev x
  split at hk
  · rename_i xs hb
    rw [hb] at hx
    obtain ⟨us, e, h2, h3⟩ := hx
    split at hk
    · rename_i d hd
      obtain ⟨u, h4, h5⟩ := h3 i d hd
      exact ⟨u, d, hk, R.of1 h5, fun w' _ => by unfold execOp; rw [ho]; simp [e, Instr.extract, h4]⟩
    · exact hk.elim
  · exact hk.elim

theorem q_len (h : Inv w0 F0 F M σ a w) {x : Operand} {t : TypeId} {c : Call} (ho : o.op = .call c) (hc : c.callee = .builtin .len) (hx : c.args.toList = [x]) (ht : c.argTypes.toList = [t]) (hk : lenD P σ.ob t (ev σ x) K) : QY P F M a w o K := by
  have hxx := h.ev x
  have e1 : c.args = #[x] := by rw [← Array.toArray_toList (xs := c.args), hx]
  have e2 : c.argTypes = #[t] := by rw [← Array.toArray_toList (xs := c.argTypes), ht]
  have key : ∀ n d, K d → R w F M (.int .i64 n) d → (∀ w', (Builtin.len_ #[t] o.type #[a.eval x]).run P w' = .ok (.int .i64 n) w') → QY P F M a w o K := fun n d hK hr hrun =>
    ⟨_, d, hK, hr, fun w' _ => by
      unfold execOp; rw [ho]
      simp [resolve, hc, e1, e2, invoke, builtin, hrun w']⟩
  unfold lenD at hk
  split at hk
  · rename_i l hb
    rw [hb] at hxx
    obtain ⟨s, e, rfl⟩ := hxx.str
    split at hk
    · rename_i hst
      exact key _ _ hk rfl fun w' => by simp [Builtin.len_, e, run_underlying (isStr_spec hst), goInt]
    · exact hk.elim
  · rename_i u l hb
    rw [hb] at hxx
    obtain ⟨A, cc, e, _⟩ := hxx.list
    split at hk
    · rename_i ee he
      exact key _ _ hk rfl fun w' => by simp [Builtin.len_, e, run_underlying (elem_spec he), goInt]
    · exact hk.elim
  · rename_i hb
    rw [hb] at hxx
    obtain ⟨A, e⟩ := hxx
    split at hk
    · rename_i ee he
      exact key _ _ hk rfl fun w' => by simp [Builtin.len_, e, run_underlying (elem_spec he), goInt]
    · exact hk.elim
  · rename_i i hb
    rw [hb] at hxx
    obtain ⟨mo, h1, h2, _⟩ := hxx
    split at hk
    · rename_i ee he
      split at hk
      · rename_i e' u xs hf
        obtain ⟨mo', h3, h4, h5⟩ := h.obs _ _ hf
        have : mo' = mo := Option.some.inj (h3.symm.trans h1)
        subst this
        refine key _ _ hk rfl fun w' => ?_
        rcases h5 with ⟨rfl, _, A, h7⟩ | ⟨g, cap, us, _, _, h7, _⟩
        · simp [Builtin.len_, h2, h7, run_underlying (elem_spec he), goInt]
        · simp [Builtin.len_, h2, h7, run_underlying (elem_spec he), goInt]
      · exact hk.elim
    · exact hk.elim
  · exact hk.elim

theorem evs_two (h : Inv w0 F0 F M σ a w) {l : List Operand} {d d' : D} (he : evs σ l = [d, d']) : ∃ x y, l = [x, y] ∧ R w F M (a.eval x) d ∧ R w F M (a.eval y) d' := by
  match l, he with
  | [x, y], he =>
    simp only [evs, List.cons.injEq] at he
    obtain ⟨h1, h2, _⟩ := he
    exact ⟨x, y, rfl, h1 ▸ h.ev x, h2 ▸ h.ev y⟩

theorem q_max (h : Inv w0 F0 F M σ a w) {c : Call} (ho : o.op = .call c) (hc : c.callee = .builtin .max) {k : IntKind} {x y : Int} (he : evs σ c.args.toList = [.val (.int k) x, .val (.int k) y]) (hk : K (.val (.int k) (imax x y))) : QY P F M a w o K := by
  obtain ⟨p, q, hl, h1, h2⟩ := evs_two h he
  have e1 : c.args = #[p, q] := by rw [← Array.toArray_toList (xs := c.args), hl]
  exact ⟨_, _, hk, rfl, fun w' _ => by
    unfold execOp; rw [ho]
    simp [resolve, hc, e1, invoke, builtin, Builtin.max_, Builtin.max2, h1.int, h2.int, imax]⟩

theorem q_min (h : Inv w0 F0 F M σ a w) {c : Call} (ho : o.op = .call c) (hc : c.callee = .builtin .min) {k : IntKind} {x y : Int} (he : evs σ c.args.toList = [.val (.int k) x, .val (.int k) y]) (hk : K (.val (.int k) (imin x y))) : QY P F M a w o K := by
  obtain ⟨p, q, hl, h1, h2⟩ := evs_two h he
  have e1 : c.args = #[p, q] := by rw [← Array.toArray_toList (xs := c.args), hl]
  exact ⟨_, _, hk, rfl, fun w' _ => by
    unfold execOp; rw [ho]
    simp [resolve, hc, e1, invoke, builtin, Builtin.min_, Builtin.min2, h1.int, h2.int, imin]⟩

end
end Go.Proofs.Ytnkinnhgahpcoaa.Vc
