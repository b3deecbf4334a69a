/-
  THE CONDITION IS SOUND, EIGHTH PART: appends, stores, cuts of own rows and calls, each as one operation.
  No condition: the lemmas hold for every program.
-/
import Derived.Test.YtnkinnhgahpcoaaVh
import Derived.Lib.AppendStr
namespace Go.Proofs.Ytnkinnhgahpcoaa.Vc
open Go.RowKit

section
variable {P : Program} {w0 : W0 P} {w : World} {F0 F F1 : Nat → Prop} {M : Nat → Option MO} {σ : St} {a : Act} {o : Oper} {K : St → Prop}

theorem listOf_row {u t : Ty} {ob : List (Nat × Ob)} {i : Nat} {e : TypeId} {xs : List t.I} {ys : List u.I} (hf : findOb ob i = some (.row false e t xs)) (hl : listOf u ob (.slo i) = some ys) : ∃ h : t = u, ys = h ▸ xs := by
  unfold listOf at hl
  simp only [snap0, hf, dec] at hl
  by_cases h : Ty.list t = Ty.list u
  · rw [dif_pos h] at hl
    simp only [Option.some.injEq] at hl
    have h' : t = u := by injection h
    subst h'
    exact ⟨rfl, hl.symm⟩
  · rw [dif_neg h] at hl; cases hl

theorem listOf_val {u t : Ty} {ob : List (Nat × Ob)} {x : t.I} {ys : List u.I} (hl : listOf u ob (.val t x) = some ys) : ∃ h : t = .list u, ys = castI h x := by
  unfold listOf at hl
  simp only [snap0, dec] at hl
  by_cases h : t = Ty.list u
  · rw [dif_pos h] at hl
    simp only [Option.some.injEq] at hl
    exact ⟨h, hl.symm⟩
  · rw [dif_neg h] at hl; cases hl

theorem listOf_src (h : Inv w0 F0 F M σ a w) {u : Ty} {v : Value} {d : D} {ys : List u.I} (hr : R w F M v d) (hl : listOf u σ.ob d = some ys) : ∃ A c news, Src w F u v ys A c news := by
  cases d
  case val t x =>
    obtain ⟨rfl, rfl⟩ := listOf_val hl
    exact Src.of_data hr
  case nils =>
    obtain ⟨A, rfl⟩ := hr
    have : ys = [] := by unfold listOf at hl; simpa [snap0, dec] using hl.symm
    subst this
    exact ⟨A, 0, [], rfl, by simp, fun hp => by simp at hp, fun i x hi => by simp at hi⟩
  case slo i =>
    obtain ⟨mo, h1, h2, _⟩ := hr
    cases hf : findOb σ.ob i with
    | none => unfold listOf at hl; simp [snap0, hf, dec] at hl
    | some q =>
      cases q
      case cells p T cs => unfold listOf at hl; simp [snap0, hf, dec] at hl
      case arr t xs => unfold listOf at hl; simp [snap0, hf, dec] at hl
      case buf e xs => unfold listOf at hl; simp [snap0, hf, dec] at hl
      case row pn e t xs =>
        cases pn with
        | true => unfold listOf at hl; simp [snap0, hf, dec] at hl
        | false =>
          obtain ⟨rfl, rfl⟩ := listOf_row hf hl
          obtain ⟨mo', h3, h4⟩ := h.obs _ _ hf
          have : mo' = mo := Option.some.inj (h3.symm.trans h1)
          subst this
          rw [h2]
          exact Src.of_own h4.2
  all_goals (unfold listOf at hl; simp [snap0, dec] at hl)

theorem OwnR.one {B : Nat → Prop} {G : Option Nat} {v : Value} {e : TypeId} {t : Ty} {xs : List t.I} (h : OwnR w F B G v e t xs) : v.oneCell' = true := by
  rcases h with ⟨_, _, A, rfl⟩ | ⟨g, cap, us, _, _, rfl, _⟩ <;> rfl

/-! ### A text is appended to bytes -/

theorem strSize (s : ByteArray) : s.size = s.data.toList.length := by rw [Array.length_toList]; rfl

theorem holds_strs (s : ByteArray) : Holds w F (.int .u8) (bts s.data.toList) (Lib.strCells s) := fun i x hi => by
  unfold bts at hi
  rw [List.getElem?_map] at hi
  obtain ⟨b, hb, rfl⟩ := Option.map_eq_some_iff.1 hi
  show ((Lib.strCells s).drop (i * 1)).take 1 = [Value.int .u8 (b.toNat : Int)]
  have hc : (Lib.strCells s)[i]? = some (.int .u8 (b.toNat : Int)) := by unfold Lib.strCells; rw [List.getElem?_map, hb]; rfl
  obtain ⟨hlt, he⟩ := List.getElem?_eq_some_iff.1 hc
  rw [Nat.mul_one, List.drop_eq_getElem_cons hlt, he]
  rfl

theorem app_runS {B : Nat → Prop} {t t' e ty : TypeId} {i : TypeInfo} {z : Value} (ht : P.underlying t = some (.slice e)) (ht' : P.underlying t' = some .string) (hi : P.info? e = some i) (hz : i.zero = some z) (hsz : i.size = 1) (hzs : z.cells.size = 1) (hby : i.bytes = 1)
    {G : Option Nat} {v : Value} {xs : List Int} (hown : OwnR w F B G v e (.int .u8) xs) (s : ByteArray) (hroom : xs.length + s.size ≤ 1073741824) (hB : B w.heap.size)
    (hF : ∀ g, F g → g < w.heap.size) (hG : ∀ g, G = some g → ¬F g) :
    ∃ v' w' G', (Builtin.append_ #[t, t'] ty #[v, .string s]).run P w = .ok v' w' ∧ w.grownBy w' G ∧ OwnR w' F B G' v' e (.int .u8) (xs ++ bts s.data.toList) ∧ (∀ g, G' = some g → g < w'.heap.size ∧ (G = some g ∨ w.heap.size ≤ g)) := by
  have hmax : xs.length + s.size ≤ maxLen := by simp only [maxLen]; omega
  have hsl := Lib.strCells_length s
  have hbl : (bts s.data.toList).length = s.size := by unfold bts; rw [List.length_map, strSize]
  have hh : Holds w F (.int .u8) (bts s.data.toList) (Lib.strCells s) := holds_strs s
  have grow_same : ∀ (ob : Obj), Same F w (w.drew.alloc ob) := fun ob g hg => Below.heap_alloc w.drew ob g (hF g hg)
  have hz1 : ∀ n, (Builtin.zeroCells z.cells n).size = n := fun n => by rw [size_zeroCells, hzs]; omega
  rcases hown with ⟨rfl, rfl, A0, rfl⟩ | ⟨g, cap, us, rfl, hBg, rfl, h1, h2, h3, h4, h5⟩
  · rcases Nat.eq_zero_or_pos s.size with h0 | h0
    · have hy : bts s.data.toList = [] := List.eq_nil_of_length_eq_zero (by rw [hbl, h0])
      refine ⟨.slice A0 0 0, w, none, ?_, ⟨rfl, rfl, rfl, Nat.le_refl _, fun _ _ _ => rfl⟩, .inl ⟨by rw [hy]; rfl, rfl, A0, rfl⟩, fun g hg => by cases hg⟩
      cases A0 <;> simp [Builtin.append_, run_underlying ht, run_underlying ht', sizeOf, typeInfo, hi, Builtin.lenOf, Builtin.firstCells, storeCells, loadCells, loadCellsFrom, h0] <;> rfl
    · have hge := grownCap_ge w s.size 0 e
      have fin : ∀ cap0 : Nat, s.size ≤ cap0 → cap0 ≤ maxLen → OwnR (w.drew.alloc (.cells ((Lib.strCells s).toArray ++ Builtin.zeroCells z.cells (cap0 - s.size)) e)) F B (some w.heap.size) (.slice (some ⟨w.heap.size, 0, none⟩) s.size cap0) e (.int .u8) (bts s.data.toList) := fun cap0 hc1 hc2 => by
        refine .inr ⟨w.heap.size, cap0, _, rfl, hB, by rw [hbl], heap_alloc_new w.drew _, by rw [hbl]; exact hc1, hc2, ?_, ?_⟩
        · simp only [Array.size_append, List.size_toArray, hz1, hsl, Ty.width]
          omega
        · simp only [Array.toList_append]
          exact (hh.keep (grow_same _) (fun _ x => x)).more (by rw [hsl, hbl]; simp [Ty.width])
      cases A0 with
      | none =>
        have hr := run_append_nil_string (P := P) w t t' ty e i z ht ht' hi hz s h0 (by omega) (by rw [hby]; omega)
        refine ⟨_, _, some w.heap.size, hr, grown_da w _ _, ?_, fun g hg => by cases hg; simp⟩
        have := fin _ hge (grownCap_le_maxLen w _ 0 e (by simpa using hmax))
        have e1 : (s.data.map fun b => Value.int .u8 (b.toNat : Int)) = (Lib.strCells s).toArray := by
          unfold Lib.strCells; apply Array.ext'; simp
        rw [e1]
        simpa using this
      | some a0 =>
        have hr := Lib.run_append_grow_string (P := P) w t t' ty e i z ht ht' hi hz a0 0 0 [] (by simp) (fun j x hj => by simp at hj) s (by omega) (by omega) (growslice_fits (by omega) (by rw [hby]; omega))
        simp only [Nat.zero_add] at hr
        refine ⟨_, _, some w.heap.size, hr, grown_da w _ _, ?_, fun g hg => by cases hg; simp⟩
        have := fin _ hge (grownCap_le_maxLen w _ 0 e (by simpa using hmax))
        simpa using this
  · have hnF := hG g rfl
    have hul : us.toList.length = cap := by rw [Array.length_toList, h4]; simp [Ty.width]
    have hxl : (us.toList.take xs.length).length = xs.length := by rw [List.length_take, hul]; omega
    have hx : Holds w F (.int .u8) xs (us.toList.take xs.length) := fun k x hk => by
      have := h5 k x hk
      have hil := (List.getElem?_eq_some_iff.1 hk).1
      simp only [Ty.width, Nat.mul_one] at this ⊢
      rw [List.drop_take, List.take_take, Nat.min_eq_left (by omega)]
      exact this
    have hgl : g < w.heap.size := (Array.getElem?_eq_some_iff.1 h1).1
    by_cases hfit : xs.length + s.size ≤ cap
    · have hr := Lib.run_append_room_string (P := P) w t t' ty e i ht ht' hi hsz g xs.length cap us h1 s hfit (by rw [h4]; simpa [Ty.width] using hfit)
      have hs : Same F w (w.setRow g (us.toList.take xs.length ++ Lib.strCells s ++ us.toList.drop (xs.length + s.size)).toArray) := fun b hb => setRow_other w g b _ (fun e => by subst e; exact hnF hb)
      refine ⟨_, _, some g, hr, grown_sr w g _, .inr ⟨g, cap, _, rfl, hBg, by rw [List.length_append, hbl], setRow_heap w g us _ e _ h1, by rw [List.length_append, hbl]; exact hfit, h3, ?_, ?_⟩, fun g' hg' => by cases hg'; exact ⟨by simpa using hgl, .inl rfl⟩⟩
      · simp only [List.size_toArray, List.length_append, List.length_take, List.length_drop, hsl, hul, Ty.width]
        omega
      · have := (hx.append (by rw [hxl]; simp [Ty.width]) hh).more (u2 := us.toList.drop (xs.length + s.size)) (by rw [List.length_append, hxl, hsl, List.length_append, hbl]; simp [Ty.width])
        exact this.keep hs (fun _ x => x)
    · have hge := grownCap_ge w (xs.length + s.size) cap e
      have holds : ∀ (j : Nat) x, (us.toList.take xs.length)[j]? = some x → w.cell? ((⟨g, 0, none⟩ : Addr).add j) = some x := fun j x hj => by
        rw [add_lit, cell_of_row w g _ us e (0, 0) h1]
        rw [List.getElem?_take] at hj
        split at hj
        · simpa using hj
        · cases hj
      have hr := Lib.run_append_grow_string (P := P) w t t' ty e i z ht ht' hi hz ⟨g, 0, none⟩ xs.length cap (us.toList.take xs.length) (by rw [hsz, hxl]; simp) holds s (by omega) (by omega) (growslice_fits (by omega) (by rw [hby]; omega))
      refine ⟨_, _, some w.heap.size, hr, grown_da w _ _, .inr ⟨w.heap.size, _, _, rfl, hB, by rw [List.length_append, hbl], heap_alloc_new w.drew _, by rw [List.length_append, hbl]; exact hge, grownCap_le_maxLen w _ cap e hmax, ?_, ?_⟩, fun g' hg' => by cases hg'; simp⟩
      · simp only [Array.size_append, List.size_toArray, hz1, hsl, hxl, Ty.width]
        omega
      · simp only [Array.toList_append]
        exact ((hx.append (by rw [hxl]; simp [Ty.width]) hh).more (by rw [List.length_append, hxl, hsl, List.length_append, hbl]; simp [Ty.width])).keep (grow_same _) (fun _ x => x)

theorem e_appendS (h : Inv w0 F0 F M σ a w) {c : Call} (ho : o.op = .call c) (hcal : c.callee = .builtin .append) {s x : Operand} {t t' : TypeId} (ha : c.args.toList = [s, x]) (hat : c.argTypes.toList = [t, t'])
    {ys : List UInt8} (hx : ev σ x = .val .str ys) (hk : appendS P σ o.dst t t' (ev σ s) ys K) : EY P w0 F0 a w o K := by
  have e1 : c.args = #[s, x] := by rw [← Array.toArray_toList (xs := c.args), ha]
  have e2 : c.argTypes = #[t, t'] := by rw [← Array.toArray_toList (xs := c.argTypes), hat]
  unfold appendS at hk
  split at hk
  · rename_i d e hd he hbs
    simp only [Bool.and_eq_true] at hbs
    have ht' := isStr_spec hbs.2
    cases hc : (Nat.beq (sizeT P e) 1 && (zeroOk P e 1 && Nat.beq (bytesT P e) 1)) with
    | false => rw [hc] at hk; exact hk.elim
    | true =>
      rw [hc] at hk
      simp only [Bool.and_eq_true] at hc
      obtain ⟨c1, c2, c4⟩ := hc
      obtain ⟨i, z, hi, hz, hzs⟩ := zeroOk_spec c2
      have hsT : sizeT P e = i.size := by unfold sizeT; rw [hi]
      have hsz : i.size = 1 := by have := Nat.eq_of_beq_eq_true c1; rw [hsT] at this; exact this
      have hbT : bytesT P e = i.bytes := by unfold bytesT; rw [hi]
      have hby : i.bytes = 1 := by have := Nat.eq_of_beq_eq_true c4; rwa [hbT] at this
      have hk : (match ev σ s with
        | .nils => room ys.length ∧ K (σ.putOb d (.row false e (.int .u8) (bts ys)) (.slo d))
        | .slo i => match findOb σ.ob i, listOf (.int .u8) σ.ob (.slo i) with
          | some (.row false e' _ _), some xs => bif Nat.beq e e' then room (xs.length + ys.length) ∧ K (({ σ.kill i with ob := (i, .row false e (.int .u8) (xs ++ bts ys)) :: (σ.kill i).ob } : St).put (some d) (.slo i)) else False
          | _, _ => False
        | _ => False) := hk
      have hxx := h.ev x
      rw [hx] at hxx
      obtain ⟨st, hst, rfl⟩ := hxx.str
      have hsl : st.size = st.data.toList.length := strSize st
      have hs := h.ev s
      have run_ : ∀ v' w', (Builtin.append_ #[t, t'] o.type #[a.eval s, .string st]).run P w = .ok v' w' → (execOp a.eval o).run P w = .ok (.value v') w' := fun v' w' hr => by
        unfold execOp; rw [ho]
        simp [resolve, hcal, e1, e2, invoke, builtin, hst, hr]
      split at hk
      · rename_i hb
        rw [hb] at hs
        obtain ⟨A0, hv⟩ := hs
        obtain ⟨hroom, hk⟩ := hk
        obtain ⟨v', w', G', hr, hg, hown, hG'⟩ := app_runS (P := P) (B := w0.nw) (ty := o.type) (elem_spec he) ht' hi hz hsz hzs hby (G := none) (v := a.eval s) (xs := []) (.inl ⟨rfl, rfl, A0, hv⟩) st (by have hq : st.data.toList.length ≤ 1073741824 := hroom; rw [List.length_nil]; omega) (h.below.new (Nat.le_refl _)) (fun g hg => (h.flt g hg).1) (fun g hg => by cases hg)
        have h1 := (h.turn hg (fun g hg => by cases hg)).kill d
        have hfresh : ∀ g, G' = some g → w.heap.size ≤ g ∧ g < w'.heap.size := fun g hgg => by
          obtain ⟨h2, h3⟩ := hG' g hgg
          rcases h3 with h3 | h3
          · cases h3
          · exact ⟨h3, h2⟩
        obtain ⟨M', hinv⟩ := h1.add d (dropM_none M d) (.row false e (.int .u8) (bts st.data.toList)) (.slo d) ⟨G', v', 1⟩ v' (some d) (fun g hgg => by
            obtain ⟨h2, h3⟩ := hfresh g hgg
            have := h.below.size
            refine ⟨h.below.new h2, fun hc => ?_, h3, fun j mj hj hjg => ?_⟩
            · have := (h.flt g hc).1; omega
            · have := (h.mine _ _ _ (dropM_some hj).2 hjg).2.2; omega)
          (fun M' _ _ => ⟨rfl, by simpa using hown⟩) fun M' hM' _ => ⟨_, hM', rfl, hown.one⟩
        exact ⟨w', _, F, M', hk, .inl ⟨v', run_ _ _ hr, by rw [hd]; exact hinv⟩⟩
      · rename_i id hb
        rw [hb] at hs
        obtain ⟨mo, hm, hv, _⟩ := hs
        split at hk
        · rename_i e'' t0 xs0 xs hf hxs
          obtain ⟨rfl, rfl⟩ := listOf_row hf hxs
          rcases beq_cases e e'' with ⟨rfl, hbe⟩ | ⟨_, hbe⟩
          · rw [hbe] at hk
            obtain ⟨hroom, hk⟩ := hk
            obtain ⟨mo', hm', hk1, hown0⟩ := h.obs _ _ hf
            have : mo' = mo := Option.some.inj (hm'.symm.trans hm)
            subst this
            obtain ⟨v', w', G', hr, hg, hown, hG'⟩ := app_runS (P := P) (B := w0.nw) (ty := o.type) (elem_spec he) ht' hi hz hsz hzs hby (v := a.eval s) (by rw [hv]; exact hown0) st (by have hq : xs.length + st.data.toList.length ≤ 1073741824 := hroom; omega) (h.below.new (Nat.le_refl _)) (fun g hg => (h.flt g hg).1) (fun g hg => (h.mine _ _ _ hm hg).1)
            have h1 := ((h.kill id).turn hg (fun g hgg => by
              obtain ⟨h2, h3, h4⟩ := h.mine _ _ _ hm hgg
              exact ⟨h3, h2, fun j mj hj hjg => (dropM_some hj).1 (h.apart _ _ _ _ _ (dropM_some hj).2 hm hjg hgg)⟩))
            obtain ⟨M', hinv⟩ := h1.add id (dropM_none _ id) (.row false e (.int .u8) (xs ++ bts st.data.toList)) (.slo id) ⟨G', v', 1⟩ v' (some d) (fun g hgg => by
                obtain ⟨h2, h3⟩ := hG' g hgg
                have := h.below.size
                rcases h3 with h3 | h3
                · obtain ⟨h4, h5, h6⟩ := h.mine _ _ _ hm h3
                  exact ⟨h5, h4, h2, fun j mj hj hjg => by
                    exact (dropM_some hj).1 (h.apart _ _ _ _ _ (dropM_some hj).2 hm hjg h3)⟩
                · refine ⟨h.below.new h3, fun hc => ?_, h2, fun j mj hj hjg => ?_⟩
                  · have := (h.flt g hc).1; omega
                  · have := (h.mine _ _ _ (dropM_some hj).2 hjg).2.2; omega)
              (fun M' _ _ => ⟨rfl, hown⟩) fun M' hM' _ => ⟨_, hM', rfl, hown.one⟩
            exact ⟨w', _, F, M', hk, .inl ⟨v', run_ _ _ hr, by rw [hd]; exact hinv⟩⟩
          · rw [hbe] at hk; exact hk.elim
        · exact hk.elim
      · exact hk.elim
  · exact hk.elim

theorem e_append (h : Inv w0 F0 F M σ a w) {c : Call} (ho : o.op = .call c) (hcal : c.callee = .builtin .append) {s x : Operand} {t t' : TypeId} (ha : c.args.toList = [s, x]) (hat : c.argTypes.toList = [t, t'])
    (hk : appendD P σ o.dst t t' (ev σ s) (ev σ x) K) : EY P w0 F0 a w o K := by
  have e1 : c.args = #[s, x] := by rw [← Array.toArray_toList (xs := c.args), ha]
  have e2 : c.argTypes = #[t, t'] := by rw [← Array.toArray_toList (xs := c.argTypes), hat]
  unfold appendD at hk
  split at hk
  · rename_i d e e' hd he he'
    split at hk
    · rename_i u hty
      cases hc : (Nat.beq (sizeT P e) u.width && (zeroOk P e u.width && (Nat.beq t t' && Nat.ble (bytesT P e) 131072))) with
      | false => rw [hc] at hk; exact hk.elim
      | true =>
        rw [hc] at hk
        simp only [Bool.and_eq_true] at hc
        obtain ⟨c1, c2, c3, c4⟩ := hc
        obtain ⟨i, z, hi, hz, hzs⟩ := zeroOk_spec c2
        have hsT : sizeT P e = i.size := by unfold sizeT; rw [hi]
        have hsz : i.size = u.width := by have := Nat.eq_of_beq_eq_true c1; rw [hsT] at this; exact this
        have hbT : bytesT P e = i.bytes := by unfold bytesT; rw [hi]
        have hby : i.bytes ≤ 131072 := by have := Nat.le_of_ble_eq_true c4; rwa [hbT] at this
        obtain rfl := Nat.eq_of_beq_eq_true c3
        have hk : (match listOf u σ.ob (ev σ x) with
          | some ys => match ev σ s with
            | .nils => room ys.length ∧ K (σ.putOb d (.row false e u ys) (.slo d))
            | .slo i => match findOb σ.ob i, listOf u σ.ob (.slo i) with
              | some (.row false e' _ _), some xs => bif Nat.beq e e' then room (xs.length + ys.length) ∧ K (({ σ.kill i with ob := (i, .row false e u (xs ++ ys)) :: (σ.kill i).ob } : St).put (some d) (.slo i)) else False
              | _, _ => False
            | _ => False
          | none => False) := hk
        split at hk
        · rename_i ys hys
          obtain ⟨A, cc, news, hsrc⟩ := listOf_src h (h.ev x) hys
          have hs := h.ev s
          have run_ : ∀ v' w', (Builtin.append_ #[t, t] o.type #[a.eval s, a.eval x]).run P w = .ok v' w' → (execOp a.eval o).run P w = .ok (.value v') w' := fun v' w' hr => by
            unfold execOp; rw [ho]
            simp [resolve, hcal, e1, e2, invoke, builtin, hr]
          split at hk
          · rename_i hb
            rw [hb] at hs
            obtain ⟨A0, hv⟩ := hs
            obtain ⟨hroom, hk⟩ := hk
            obtain ⟨v', w', G', hr, hg, hown, hG'⟩ := app_run (P := P) (B := w0.nw) (ty := o.type) (elem_spec he) hi hz hsz hzs hby (G := none) (v := a.eval s) (xs := []) (.inl ⟨rfl, rfl, A0, hv⟩) hsrc (by simpa [room] using hroom) (h.below.new (Nat.le_refl _)) (fun g hg => (h.flt g hg).1) (fun g hg => by cases hg)
            have h1 := (h.turn hg (fun g hg => by cases hg)).kill d
            have hfresh : ∀ g, G' = some g → w.heap.size ≤ g ∧ g < w'.heap.size := fun g hgg => by
              obtain ⟨h2, h3⟩ := hG' g hgg
              rcases h3 with h3 | h3
              · cases h3
              · exact ⟨h3, h2⟩
            obtain ⟨M', hinv⟩ := h1.add d (dropM_none M d) (.row false e u ys) (.slo d) ⟨G', v', u.width⟩ v' (some d) (fun g hgg => by
                obtain ⟨h2, h3⟩ := hfresh g hgg
                have := h.below.size
                refine ⟨h.below.new h2, fun hc => ?_, h3, fun j mj hj hjg => ?_⟩
                · have := (h.flt g hc).1; omega
                · have := (h.mine _ _ _ (dropM_some hj).2 hjg).2.2; omega)
              (fun M' _ _ => ⟨rfl, by simpa using hown⟩) fun M' hM' _ => ⟨_, hM', rfl, hown.one⟩
            exact ⟨w', _, F, M', hk, .inl ⟨v', run_ _ _ hr, by rw [hd]; exact hinv⟩⟩
          · rename_i id hb
            rw [hb] at hs
            obtain ⟨mo, hm, hv, _⟩ := hs
            split at hk
            · rename_i e'' t0 xs0 xs hf hxs
              obtain ⟨rfl, rfl⟩ := listOf_row hf hxs
              rcases beq_cases e e'' with ⟨rfl, hbe⟩ | ⟨_, hbe⟩
              · rw [hbe] at hk
                obtain ⟨hroom, hk⟩ := hk
                obtain ⟨mo', hm', hk1, hown0⟩ := h.obs _ _ hf
                have : mo' = mo := Option.some.inj (hm'.symm.trans hm)
                subst this
                obtain ⟨v', w', G', hr, hg, hown, hG'⟩ := app_run (P := P) (B := w0.nw) (ty := o.type) (elem_spec he) hi hz hsz hzs hby (v := a.eval s) (by rw [hv]; exact hown0) hsrc hroom (h.below.new (Nat.le_refl _)) (fun g hg => (h.flt g hg).1) (fun g hg => (h.mine _ _ _ hm hg).1)
                have h1 := ((h.kill id).turn hg (fun g hgg => by
                  obtain ⟨h2, h3, h4⟩ := h.mine _ _ _ hm hgg
                  exact ⟨h3, h2, fun j mj hj hjg => (dropM_some hj).1 (h.apart _ _ _ _ _ (dropM_some hj).2 hm hjg hgg)⟩))
                obtain ⟨M', hinv⟩ := h1.add id (dropM_none _ id) (.row false e t0 (xs ++ ys)) (.slo id) ⟨G', v', t0.width⟩ v' (some d) (fun g hgg => by
                    obtain ⟨h2, h3⟩ := hG' g hgg
                    have := h.below.size
                    rcases h3 with h3 | h3
                    · obtain ⟨h4, h5, h6⟩ := h.mine _ _ _ hm h3
                      exact ⟨h5, h4, h2, fun j mj hj hjg => by
                        exact (dropM_some hj).1 (h.apart _ _ _ _ _ (dropM_some hj).2 hm hjg h3)⟩
                    · refine ⟨h.below.new h3, fun hc => ?_, h2, fun j mj hj hjg => ?_⟩
                      · have := (h.flt g hc).1; omega
                      · have := (h.mine _ _ _ (dropM_some hj).2 hjg).2.2; omega)
                  (fun M' _ _ => ⟨rfl, hown⟩) fun M' hM' _ => ⟨_, hM', rfl, hown.one⟩
                exact ⟨w', _, F, M', hk, .inl ⟨v', run_ _ _ hr, by rw [hd]; exact hinv⟩⟩
              · rw [hbe] at hk; exact hk.elim
            · exact hk.elim
          · exact hk.elim
        · exact hk.elim
    · exact hk.elim
  · exact hk.elim

/-! ### Stores -/

theorem setLV_get : ∀ (vs us : List Value) (off j : Nat), (setLV us off vs)[j]? = if off ≤ j ∧ j < off + vs.length ∧ j < us.length then vs[j - off]? else us[j]?
  | [], us, off, j => by
    rw [if_neg (by simp only [List.length_nil]; omega)]; rfl
  | v :: r, us, off, j => by
    rw [setLV, setLV_get r]
    simp only [List.length_cons, List.length_set]
    by_cases h : off + 1 ≤ j ∧ j < off + 1 + r.length ∧ j < us.length
    · rw [if_pos h, if_pos (by omega)]
      have : j - off = (j - (off + 1)) + 1 := by omega
      rw [this, List.getElem?_cons_succ]
    · rw [if_neg h, List.getElem?_set]
      by_cases hj : off = j
      · subst hj
        by_cases hl : off < us.length
        · rw [if_pos rfl, if_pos hl, if_pos (by omega), Nat.sub_self]; rfl
        · rw [if_pos rfl, if_neg hl, if_neg (by omega), List.getElem?_eq_none (by omega)]
      · rw [if_neg hj, if_neg (by omega)]

theorem setLV_window {us vs : List Value} {b off n : Nat} (h1 : off + vs.length ≤ n) (_h2 : b + n ≤ us.length) : ((setLV us (b + off) vs).drop b).take n = setLV ((us.drop b).take n) off vs := by
  apply List.ext_getElem?
  intro j
  rw [List.getElem?_take, setLV_get]
  by_cases hj : j < n
  · rw [if_pos hj, List.getElem?_drop, setLV_get]
    have hl : ((us.drop b).take n).length = n := by simp; omega
    rw [hl]
    by_cases hin : off ≤ j ∧ j < off + vs.length
    · rw [if_pos (by omega), if_pos (by omega)]
      congr 1; omega
    · rw [if_neg (by omega), if_neg (by omega), List.getElem?_take, if_pos hj, List.getElem?_drop]
  · rw [if_neg hj, if_neg (by omega), List.getElem?_take, if_neg hj]

theorem setLV_other {us vs : List Value} {b off n b' : Nat} (h1 : off + vs.length ≤ n) (h : b' + n ≤ b ∨ b + n ≤ b') : ((setLV us (b + off) vs).drop b').take n = (us.drop b').take n := by
  apply List.ext_getElem?
  intro j
  rw [List.getElem?_take, List.getElem?_take]
  by_cases hj : j < n
  · rw [if_pos hj, if_pos hj, List.getElem?_drop, List.getElem?_drop, setLV_get, if_neg (by omega)]
  · rw [if_neg hj, if_neg hj]

theorem enc_rel {t : Ty} {x : t.I} {us : List Value} (h : RV w F t x us) : Rel w F M us (enc t x) := by
  refine ⟨by rw [h.len, enc_len], fun j c hj => ?_⟩
  obtain ⟨u, h1, h2⟩ := enc_reads h j c hj
  exact ⟨u, h1, h.one u (List.mem_of_getElem? h1), h2.to0⟩

theorem run_storeAt {t : TypeId} {g off : Nat} {us : Array Value} {ty : TypeId} {v : Value} (hg : w.heap[g]? = some (.cells us ty (0, 0))) (hlen : v.cells.size = sizeT P t) (hpos : 0 < v.cells.size) (hfit : off + v.cells.size ≤ us.size)
    (hone : ∀ u ∈ v.cells.toList, u.oneCell' = true) : (Instr.storeAt t (.pointer (some ⟨g, off, none⟩)) v).run P w = .ok () (w.setRow g (setLV us.toList off v.cells.toList).toArray) := by
  have : ∃ i, P.info? t = some i ∧ i.size = v.cells.size := by
    unfold sizeT at hlen
    split at hlen
    · rename_i i hi; exact ⟨i, hi, hlen.symm⟩
    · omega
  obtain ⟨i, hi, hs⟩ := this
  have hr := run_storeCells_at P g off ty v.cells.toList 0 us w hg (by simpa using hfit) hone
  rw [setLV_eq _ _ _ (by simpa using hfit)]
  simp only [Nat.add_zero] at hr
  simp [Instr.storeAt, Instr.sureAddr, storeVar, sizeOf, typeInfo, hi, hs, hr]

theorem Rel.ones {us : List Value} {cs : List D} (h : Rel w F M us cs) : ∀ u ∈ us, u.oneCell' = true := by
  intro u hu
  obtain ⟨j, hj, rfl⟩ := List.mem_iff_getElem.1 hu
  have hjc : j < cs.length := by rw [← h.1]; exact hj
  obtain ⟨u', h1, h2, _⟩ := h.2 j _ (List.getElem?_eq_getElem hjc)
  rw [List.getElem?_eq_getElem hj] at h1
  cases h1
  exact h2

theorem same_setRow (h : Inv w0 F0 F M σ a w) {i : Nat} {mo : MO} {g : Nat} (hm : M i = some mo) (hg : mo.g = some g) (cs : Array Value) : Same F w (w.setRow g cs) :=
  fun b hb => setRow_other w g b _ (fun e => by subst e; exact (h.mine _ _ _ hm hg).1 hb)

/-- A cell, or some, of an element is written. -/
theorem holds_set {t : Ty} {xs : List t.I} {us vs : List Value} {i : Int} {off : Nat} {y : t.I} (hh : Holds w F t xs us) (hlen : xs.length * t.width ≤ us.length) (hi : inR i xs.length) (hfit : off + vs.length ≤ t.width)
    (hy : RV w F t y (setLV ((us.drop (i.toNat * t.width)).take t.width) off vs)) : Holds w F t (xs.set i.toNat y) (setLV us (i.toNat * t.width + off) vs) := by
  intro k x hk
  have hil : i.toNat < xs.length := by have := hi.1; have := hi.2; omega
  have hle : i.toNat * t.width + t.width ≤ us.length := by
    have : i.toNat * t.width + t.width ≤ xs.length * t.width := by rw [← Nat.succ_mul]; exact Nat.mul_le_mul_right _ hil
    omega
  rw [List.getElem?_set] at hk
  by_cases hik : i.toNat = k
  · subst hik
    rw [if_pos rfl, if_pos hil] at hk
    cases hk
    rw [setLV_window hfit hle]
    exact hy
  · rw [if_neg hik] at hk
    rw [setLV_other hfit]
    · exact hh k x hk
    · rcases Nat.lt_or_gt_of_ne hik with hlt | hgt
      · right; rw [← Nat.succ_mul]; exact Nat.mul_le_mul_right _ hlt
      · left; rw [← Nat.succ_mul]; exact Nat.mul_le_mul_right _ hgt

theorem e_store (h : Inv w0 F0 F M σ a w) {t : TypeId} {p x : Operand} (ho : o.op = .store t p x) (hd : o.dst = none) (hk : storeD P σ t (ev σ p) (ev σ x) K) : EY P w0 F0 a w o K := by
  have hp := h.ev p
  have hput : ∀ v, a.put o.dst v = a := fun v => by rw [hd]; rfl
  have fin : ∀ {g off : Nat} {w' : World} {σ' : St}, a.eval p = .pointer (some ⟨g, off, none⟩) → (Instr.storeAt t (.pointer (some ⟨g, off, none⟩)) (a.eval x)).run P w = .ok () w' → K σ' → Inv w0 F0 F M σ' a w' → EY P w0 F0 a w o K := fun {g off w' σ'} h1 h2 h3 h4 =>
    ⟨w', σ', F, M, h3, .inr ⟨by unfold execOp; rw [ho]; simp [h1, h2], by rw [hput]; exact h4⟩⟩
  unfold storeD at hk
  split at hk
  · rename_i new hnew
    have hrel := cellsOf_spec (h.ev x) hnew
    cases hb : (Nat.beq new.length (sizeT P t) && Nat.blt 0 new.length) with
    | false => rw [hb] at hk; exact hk.elim
    | true =>
      rw [hb] at hk
      simp only [Bool.and_eq_true] at hb
      have hsize : (a.eval x).cells.size = new.length := by simpa using hrel.1
      have hlen : (a.eval x).cells.size = sizeT P t := by rw [hsize]; exact Nat.eq_of_beq_eq_true hb.1
      have hnl : (a.eval x).cells.toList.length = new.length := hrel.1
      have hpos : 0 < (a.eval x).cells.size := by rw [hsize]; simpa [Nat.blt_eq] using hb.2
      have hk : (match ev σ p with
        | .ptr i o => match findOb σ.ob i with
          | some (.cells p T cs) => bif Nat.ble (o + new.length) cs.length then K { σ with ob := setOb σ.ob i (.cells p T (setFrom cs o new)) } else False
          | _ => False
        | .rptr i ix o => match rowsOf [ev σ x] with
          | [] => match findOb σ.ob i with
            | some (.row p e u xs) => inR ix xs.length ∧ bif Nat.ble (o + new.length) u.width then
                match decAll u (setFrom (enc u (atI u xs ix)) o (snaps0 σ.ob new)) with
                | some y => K { σ with ob := setOb σ.ob i (.row p e u (xs.set ix.toNat y)) }
                | none => False
              else False
            | some (.arr u xs) => inR ix xs.length ∧ bif Nat.ble (o + new.length) u.width then
                match decAll u (setFrom (enc u (atI u xs ix)) o (snaps0 σ.ob new)) with
                | some y => K { σ with ob := setOb σ.ob i (.arr u (xs.set ix.toNat y)) }
                | none => False
              else False
            | _ => False
          | _ => False
        | _ => False) := hk
      split at hk
      · rename_i i off hpb
        rw [hpb] at hp
        obtain ⟨mo, g, hm, hg, hv⟩ := hp
        split at hk
        · rename_i cs hf
          cases hble : Nat.ble (off + new.length) cs.length with
          | false => rw [hble] at hk; exact hk.elim
          | true =>
            rw [hble] at hk
            have hle := Nat.le_of_ble_eq_true hble
            obtain ⟨mo', hm', g', us, h1, h2, h3, h4⟩ := h.obs _ _ hf
            have : mo' = mo := Option.some.inj (hm'.symm.trans hm)
            subst this
            have : g' = g := Option.some.inj (h1.symm.trans hg)
            subst this
            have hr := run_storeAt (P := P) (t := t) (off := off) h2 hlen hpos (by rw [hsize, h3]; exact hle) hrel.ones
            have hrel0 : Rel w F M us.toList cs := ⟨by simpa using h3, fun j c hj => by simpa using h4 j c hj⟩
            have hrel1 := (hrel0.setFrom (off := off) hrel).keep (same_setRow h hm hg (setLV us.toList off (a.eval x).cells.toList).toArray) (fun _ y => y) (MLe.refl M)
            refine fin hv hr hk (h.store hm hg (grown_sr w g' _) _ ⟨g', _, hg, setRow_heap w g' us _ _ _ h2, by simpa using hrel1.1, fun j c hj => ?_⟩ fun hp => h.pins _ _ hf hp)
            obtain ⟨u, h5, h6⟩ := hrel1.2 j c hj
            exact ⟨u, by simpa using h5, h6⟩
        · exact hk.elim
      · rename_i i ix off hpb
        rw [hpb] at hp
        obtain ⟨mo, g, hm, hg, hv⟩ := hp
        split at hk
        · rename_i hrows
          have hsn : Rel w F noM (a.eval x).cells.toList (snaps0 σ.ob new) := hrel.snap h (fun _ y => y) fun k hkm => by
            exfalso
            have : k ∈ rowsOf [ev σ x] := by
              cases hx : ev σ x <;> rw [hx] at hnew <;> simp only [cellsOf, Option.some.injEq] at hnew <;> first | (cases hnew; done) | skip
              case agg => subst hnew; simp only [rowsOf, List.mem_append]; exact .inl hkm
              all_goals (subst hnew; simp only [rowsOf, List.mem_append]; left; simpa using hkm)
            rw [hrows] at this; cases this
          have hsl : (snaps0 σ.ob new).length = new.length := snaps0_len _ _
          -- one element, written
          have elem : ∀ {u : Ty} {xs : List u.I} {us : Array Value} {ty : TypeId} {y : u.I}, mo.k = u.width → w.heap[g]? = some (.cells us ty (0, 0)) → Holds w F u xs us.toList → xs.length * u.width ≤ us.size → inR ix xs.length → off + new.length ≤ u.width →
              decAll u (setFrom (enc u (atI u xs ix)) off (snaps0 σ.ob new)) = some y →
              (Instr.storeAt t (.pointer (some ⟨g, ix.toNat * mo.k + off, none⟩)) (a.eval x)).run P w = .ok () (w.setRow g (setLV us.toList (ix.toNat * u.width + off) (a.eval x).cells.toList).toArray) ∧
              Holds (w.setRow g (setLV us.toList (ix.toNat * u.width + off) (a.eval x).cells.toList).toArray) F u (xs.set ix.toNat y) (setLV us.toList (ix.toNat * u.width + off) (a.eval x).cells.toList) := by
            intro u xs us ty y hmk hh hHolds hle hin hfit hdec
            have hil : ix.toNat < xs.length := by have := hin.1; have := hin.2; omega
            have hwin : ix.toNat * u.width + u.width ≤ us.size := by
              have : ix.toNat * u.width + u.width ≤ xs.length * u.width := by rw [← Nat.succ_mul]; exact Nat.mul_le_mul_right _ hil
              omega
            refine ⟨by rw [hmk]; exact run_storeAt hh hlen hpos (by rw [hsize]; omega) hrel.ones, ?_⟩
            have hel : Rel w F noM ((us.toList.drop (ix.toNat * u.width)).take u.width) (enc u (atI u xs ix)) := enc_rel (hHolds _ _ (atI_get hin))
            have hy := decAll_spec (hel.setFrom (off := off) hsn) hdec
            exact (holds_set hHolds (by simpa using hle) hin (by rw [hnl]; exact hfit) hy).keep (same_setRow h hm hg _) fun _ z => z
          split at hk
          · rename_i pn e u xs hf
            obtain ⟨hin, hk⟩ := hk
            cases hble : Nat.ble (off + new.length) u.width with
            | false => rw [hble] at hk; exact hk.elim
            | true =>
              rw [hble] at hk
              have hk : (match decAll u (setFrom (enc u (atI u xs ix)) off (snaps0 σ.ob new)) with
                | some y => K { σ with ob := setOb σ.ob i (.row pn e u (xs.set ix.toNat y)) }
                | none => False) := hk
              split at hk
              · rename_i y hdec
                obtain ⟨mo', hm', hmk, hown⟩ := h.obs _ _ hf
                have : mo' = mo := Option.some.inj (hm'.symm.trans hm)
                subst this
                rcases hown with ⟨_, h8, _⟩ | ⟨g', cap, us, h7, hB, h9, h10, h11, h12, h13, h14⟩
                · rw [h8] at hg; cases hg
                · have : g' = g := Option.some.inj (h7.symm.trans hg)
                  subst this
                  obtain ⟨hr, hHolds'⟩ := elem hmk h10 h14 (by rw [h13]; exact Nat.mul_le_mul_right _ h11) hin (Nat.le_of_ble_eq_true hble) hdec
                  refine fin hv hr hk (h.store hm hg (grown_sr w g' _) _ ⟨hmk, .inr ⟨g', cap, _, hg, hB, by rw [List.length_set]; exact h9, setRow_heap w g' us _ e _ h10, by rw [List.length_set]; exact h11, h12, ?_, by simpa using hHolds'⟩⟩ fun hp => h.pins _ _ hf hp)
                  rw [List.size_toArray, setLV_len, Array.length_toList]; exact h13
              · exact hk.elim
          · rename_i u xs hf
            obtain ⟨hin, hk⟩ := hk
            cases hble : Nat.ble (off + new.length) u.width with
            | false => rw [hble] at hk; exact hk.elim
            | true =>
              rw [hble] at hk
              have hk : (match decAll u (setFrom (enc u (atI u xs ix)) off (snaps0 σ.ob new)) with
                | some y => K { σ with ob := setOb σ.ob i (.arr u (xs.set ix.toNat y)) }
                | none => False) := hk
              split at hk
              · rename_i y hdec
                obtain ⟨mo', hm', g', us, ty, h1, hmk, h2, h3, h4⟩ := h.obs _ _ hf
                have : mo' = mo := Option.some.inj (hm'.symm.trans hm)
                subst this
                have : g' = g := Option.some.inj (h1.symm.trans hg)
                subst this
                obtain ⟨hr, hHolds'⟩ := elem hmk h2 h4 (by rw [h3]; exact Nat.le_refl _) hin (Nat.le_of_ble_eq_true hble) hdec
                refine fin hv hr hk (h.store hm hg (grown_sr w g' _) _ ⟨g', _, ty, hg, hmk, setRow_heap w g' us _ ty _ h2, ?_, by simpa using hHolds'⟩ fun hp => by cases hp)
                rw [List.size_toArray, setLV_len, Array.length_toList, List.length_set]; exact h3
              · exact hk.elim
          · exact hk.elim
        · exact hk.elim
      · exact hk.elim
  · exact hk.elim

end
end Go.Proofs.Ytnkinnhgahpcoaa.Vc
