/-
  THE CONDITION IS SOUND, SEVENTH PART: slice literals, appends, stores, cuts of own rows, calls.
  No condition: the lemmas hold for every program.
-/
import Derived.Test.YtnkinnhgahpcoaaVg
namespace Go.Proofs.Ytnkinnhgahpcoaa.Vc
open Go.RowKit

section
variable {P : Program} {w0 : W0 P} {w : World} {F0 F F1 : Nat → Prop} {M : Nat → Option MO} {σ : St} {a : Act} {o : Oper} {K : St → Prop}

theorem run_range_zero (z : Array Value) (n : Nat) : ((Array.range n).map (z[· % z.size]!)).size = n := by simp

theorem e_buildSlice (h : Inv w0 F0 F M σ a w) {t : TypeId} {len : Nat} {parts : Array (Nat × Operand)} (ho : o.op = .buildSlice t len parts)
    (hk : buildSliceD P σ o.dst t len (evParts σ parts.toList) K) : EY P w0 F0 a w o K := by
  unfold buildSliceD at hk
  split at hk
  · rename_i d e hd he
    split at hk
    · rename_i u hty
      cases hc : (Nat.beq (sizeT P e) u.width && (zeroOk P e u.width && (Nat.beq (evParts σ parts.toList).length len && Nat.ble (len * sizeT P e) 16777216))) with
      | false => rw [hc] at hk; exact hk.elim
      | true =>
        rw [hc] at hk
        have hk : (match decParts u σ.ob 0 (evParts σ parts.toList) with
          | some ys => K ((σ.iceAll (rowsOf (secs (evParts σ parts.toList)))).putOb d (.row false e u ys) (.slo d))
          | none => False) := hk
        split at hk
        · rename_i ys hys
          simp only [Bool.and_eq_true] at hc
          obtain ⟨c1, c2, c3, c4⟩ := hc
          obtain ⟨i, z, hi, hz, hzs⟩ := zeroOk_spec c2
          have hsT : sizeT P e = i.size := by unfold sizeT; rw [hi]
          have hsz : i.size = u.width := by
            have := Nat.eq_of_beq_eq_true c1
            rw [hsT] at this; exact this
          have hlen : parts.toList.length = len := by
            have := Nat.eq_of_beq_eq_true c3
            have hl : ∀ l : List (Nat × Operand), (evParts σ l).length = l.length := fun l => by induction l with
              | nil => rfl
              | cons p r ih => obtain ⟨i, x⟩ := p; simp [evParts, ih]
            rw [hl] at this; exact this
          have hle : len * u.width ≤ 16777216 := by
            have := Nat.le_of_ble_eq_true c4
            rwa [hsT, hsz] at this
          obtain ⟨F', M', h1, h2, h3, h4, h5⟩ := iceAll_froz (rowsOf (secs (evParts σ parts.toList))) h
          obtain ⟨cells', h6, h7, _, h8, h9⟩ := parts_sound (F1 := F') h h2 parts.toList 0 ((Array.range (len * u.width)).map ((if len * u.width = 0 then #[] else z.cells)[· % (if len * u.width = 0 then #[] else z.cells).size]!)) ys h3 hys (by simp [hlen])
          simp only [Nat.zero_mul, List.drop_zero] at h9
          have hcs : cells'.size = len * u.width := by rw [h7]; simp
          have hb := below_alloc w (.cells cells' e)
          have hylen : ys.length = len := by rw [h8, hlen]
          have hM := h1.putOb (w' := w.alloc (.cells cells' e)) hb d (.row false e u ys) (.slo d) ⟨some w.heap.size, .slice (some ⟨w.heap.size, 0, none⟩) len len, u.width⟩ (.slice (some ⟨w.heap.size, 0, none⟩) len len)
            (fun g hg => by cases hg; simp)
            (fun M' _ _ => ⟨rfl, .inr ⟨w.heap.size, len, cells', rfl, h.below.new (Nat.le_refl _), by rw [hylen], heap_alloc_new w _, by omega, by simp only [maxLen]; have := width_pos u; have : len ≤ len * u.width := Nat.le_mul_of_pos_right _ this; omega, hcs, h9.keep (same_alloc h1 _) (fun _ x => x)⟩⟩)
            fun M' hd' _ => ⟨_, hd', rfl, rfl⟩
          obtain ⟨M2, hinv⟩ := hM
          refine ⟨_, _, F', M2, hk, .inl ⟨_, ?_, by rw [hd]; exact hinv⟩⟩
          have hn : ¬ (len * i.size > 2 ^ 24) := by rw [hsz]; omega
          unfold execOp; rw [ho]
          have hfill : Instr.fill (fun i => some (i * u.width, u.width)) ((Array.range (len * u.width)).map ((if len * u.width = 0 then #[] else z.cells)[· % (if len * u.width = 0 then #[] else z.cells).size]!)) (vParts a parts.toList) = some cells' := h6
          have hparts : (Array.map (fun x => match x with | (i, x) => (i, a.eval x)) parts).toList = vParts a parts.toList := by rw [Array.toList_map]; rfl
          by_cases h0 : len * u.width = 0
          · have e0 : ∀ f : Nat → Value, Array.map f (Array.range 0) = #[] := fun f => by simp
            simp only [h0, if_true, e0] at hfill
            simp only [Instr.buildSlice, Sem.run_bind, run_underlying (elem_spec he), Result.andThen_ok, sizeOf, typeInfo, run_program, hi, Sem.run_pure, hsz, h0, hparts]
            simp [hfill, newRow, e0]
          · simp only [h0, if_false] at hfill
            have hn' : ¬ (len * u.width > 2 ^ 24) := by omega
            simp only [Instr.buildSlice, Sem.run_bind, run_underlying (elem_spec he), Result.andThen_ok, sizeOf, typeInfo, run_program, hi, Sem.run_pure, hsz, h0, hparts]
            simp [hfill, newRow, hn', zeroValue, typeInfo, hi, hz]
        · exact hk.elim
    · exact hk.elim
  · exact hk.elim

/-! ### append -/

/-- Where the elements of a slice are read. -/
structure Src (w : World) (F : Nat → Prop) (t : Ty) (v : Value) (xs : List t.I) (A : Option Addr) (c : Nat) (news : List Value) : Prop where
  form : v = .slice A xs.length c
  len : news.length = xs.length * t.width
  at_ : 0 < xs.length → ∃ ad, A = some ad ∧ Reads w ad news
  holds : Holds w F t xs news

theorem Holds.one {t : Ty} {xs : List t.I} {us : List Value} (h : Holds w F t xs us) (hl : us.length = xs.length * t.width) : ∀ u ∈ us, u.oneCell' = true := by
  intro u hu
  obtain ⟨j, hj, rfl⟩ := List.mem_iff_getElem.1 hu
  have hw := width_pos t
  have hlt : j / t.width < xs.length := by rw [Nat.div_lt_iff_lt_mul hw]; omega
  have := h (j / t.width) _ (List.getElem?_eq_getElem hlt)
  refine this.one _ (List.mem_of_getElem? (i := j % t.width) ?_)
  rw [List.getElem?_take, if_pos (Nat.mod_lt _ hw), List.getElem?_drop]
  have : j / t.width * t.width + j % t.width = j := by rw [Nat.mul_comm]; exact Nat.div_add_mod j t.width
  rw [this, List.getElem?_eq_getElem hj]

theorem Src.of_data {t : Ty} {xs : List t.I} {v : Value} (h : RV w F (.list t) xs [v]) : ∃ A c news, Src w F t v xs A c news := by
  obtain ⟨A, c, h1, h2, h3, h4⟩ := h
  have hv : v = .slice A xs.length c := by simpa using h1
  rcases Nat.eq_zero_or_pos xs.length with h0 | h0
  · refine ⟨A, c, [], hv, by simp [h0], fun hp => by omega, fun i x hi => ?_⟩
    have := List.getElem?_eq_some_iff.1 hi
    obtain ⟨hlt, _⟩ := this
    omega
  · obtain ⟨ad, us, rfl, _⟩ := h4 0 _ (List.getElem?_eq_getElem h0)
    have hw := width_pos t
    have hread : ∀ j, j < xs.length * t.width → ∃ u, w.cell? (ad.add j) = some u ∧ u.oneCell' = true := fun j hj => by
      have hlt : j / t.width < xs.length := by rw [Nat.div_lt_iff_lt_mul hw]; omega
      obtain ⟨ad', us', e, _, h6, h7⟩ := h4 (j / t.width) _ (List.getElem?_eq_getElem hlt)
      cases e
      have hl := h6.len
      have hm := Nat.mod_lt j hw
      obtain ⟨h8, h9⟩ := h7 (j % t.width) (us'[j % t.width]'(by omega)) (List.getElem?_eq_getElem (by omega))
      rw [add_add, show j / t.width * t.width + j % t.width = j by rw [Nat.mul_comm]; exact Nat.div_add_mod j t.width] at h8
      exact ⟨_, h8, h9⟩
    let f : Nat → Value := fun j => (w.cell? (ad.add j)).getD undef
    have hf : ∀ j, j < xs.length * t.width → w.cell? (ad.add j) = some (f j) ∧ (f j).oneCell' = true := fun j hj => by
      obtain ⟨u, h5, h6⟩ := hread j hj
      have : f j = u := by show (w.cell? (ad.add j)).getD undef = u; rw [h5]; rfl
      rw [this]; exact ⟨h5, h6⟩
    have hget : ∀ j, j < xs.length * t.width → ((List.range (xs.length * t.width)).map f)[j]? = some (f j) := fun j hj => by simp [hj]
    refine ⟨some ad, c, (List.range (xs.length * t.width)).map f, hv, by simp, fun _ => ⟨ad, rfl, fun j u hj => ?_⟩, fun i x hi => ?_⟩
    · have hlt : j < xs.length * t.width := by
        have := (List.getElem?_eq_some_iff.1 hj).1
        simpa using this
      rw [hget j hlt] at hj
      cases hj
      exact hf j hlt
    · obtain ⟨ad', us', e, _, h6, h7⟩ := h4 i x hi
      cases e
      have hil := (List.getElem?_eq_some_iff.1 hi).1
      have hle : i * t.width + t.width ≤ xs.length * t.width := by rw [← Nat.succ_mul]; exact Nat.mul_le_mul_right _ hil
      have : (((List.range (xs.length * t.width)).map f).drop (i * t.width)).take t.width = us' := by
        apply List.ext_getElem?
        intro j
        by_cases hj : j < t.width
        · rw [List.getElem?_take, if_pos hj, List.getElem?_drop, hget _ (by omega)]
          have hjl : j < us'.length := by rw [h6.len]; exact hj
          obtain ⟨h8, _⟩ := h7 j _ (List.getElem?_eq_getElem hjl)
          rw [add_add, (hf _ (by omega)).1] at h8
          rw [List.getElem?_eq_getElem hjl]
          exact h8
        · rw [List.getElem?_take, if_neg hj, List.getElem?_eq_none (by rw [h6.len]; omega)]
      rw [this]; exact h6

theorem Src.of_own {B : Nat → Prop} {G : Option Nat} {t : Ty} {xs : List t.I} {v : Value} {e : TypeId} (h : OwnR w F B G v e t xs) : ∃ A c news, Src w F t v xs A c news := by
  have hr : RV w (fun g => F g ∨ G = some g) (.list t) xs [v] := h.reads (fun _ x => Or.inl x) fun g hg => Or.inr hg
  rcases h with ⟨rfl, _, A, rfl⟩ | ⟨g, cap, us, rfl, _, rfl, h1, h2, h3, h4, h5⟩
  · exact ⟨A, 0, [], rfl, by simp, fun hp => by simp at hp, fun i x hi => by simp at hi⟩
  · have hle : xs.length * t.width ≤ us.toList.length := by have := Nat.mul_le_mul_right t.width h2; rw [← h4] at this; simpa using this
    have hh : Holds w F t xs (us.toList.take (xs.length * t.width)) := fun i x hi => by
      have := h5 i x hi
      have hil := (List.getElem?_eq_some_iff.1 hi).1
      have hle' : i * t.width + t.width ≤ xs.length * t.width := by rw [← Nat.succ_mul]; exact Nat.mul_le_mul_right _ hil
      rw [List.drop_take, List.take_take, Nat.min_eq_left (by omega)]
      exact this
    refine ⟨some ⟨g, 0, none⟩, cap, us.toList.take (xs.length * t.width), rfl, by rw [List.length_take]; omega, fun _ => ⟨_, rfl, fun j u hj => ?_⟩, hh⟩
    have hone := hh.one (by rw [List.length_take]; omega) u (List.mem_of_getElem? hj)
    rw [List.getElem?_take] at hj
    split at hj
    · refine ⟨?_, hone⟩
      rw [add_lit, cell_of_row w g _ us e (0, 0) h1]
      simpa using hj
    · cases hj

theorem Holds.append {t : Ty} {xs ys : List t.I} {u1 u2 : List Value} (h1 : Holds w F t xs u1) (hl : u1.length = xs.length * t.width) (h2 : Holds w F t ys u2) : Holds w F t (xs ++ ys) (u1 ++ u2) := by
  intro i x hi
  rcases Nat.lt_or_ge i xs.length with hlt | hge
  · rw [List.getElem?_append_left hlt] at hi
    have hle : i * t.width + t.width ≤ u1.length := by rw [hl, ← Nat.succ_mul]; exact Nat.mul_le_mul_right _ hlt
    rw [List.drop_append_of_le_length (by omega), List.take_append_of_le_length (by simp; omega)]
    exact h1 i x hi
  · rw [List.getElem?_append_right hge] at hi
    have := h2 _ x hi
    have e : i * t.width = u1.length + (i - xs.length) * t.width := by rw [hl, ← Nat.add_mul]; congr 1; omega
    rw [e, ← List.drop_drop, List.drop_left]
    exact this

theorem Holds.more {t : Ty} {xs : List t.I} {u1 u2 : List Value} (h : Holds w F t xs u1) (hl : u1.length = xs.length * t.width) : Holds w F t xs (u1 ++ u2) := by
  intro i x hi
  have hil := (List.getElem?_eq_some_iff.1 hi).1
  have hle : i * t.width + t.width ≤ u1.length := by rw [hl, ← Nat.succ_mul]; exact Nat.mul_le_mul_right _ hil
  rw [List.drop_append_of_le_length (by omega), List.take_append_of_le_length (by simp; omega)]
  exact h i x hi

theorem grown_da (w : World) (ob : Obj) (row : Option Nat) : w.grownBy (w.drew.alloc ob) row := ⟨rfl, rfl, rfl, by simp, fun k hk _ => Below.heap_alloc w.drew ob k hk⟩

theorem grown_sr (w : World) (g : Nat) (cs : Array Value) : w.grownBy (w.setRow g cs) (some g) := ⟨rfl, rfl, rfl, by simp, fun k _ hk => setRow_other w g k _ (fun e => hk (by rw [e]))⟩

theorem app_run {B : Nat → Prop} {t e ty : TypeId} {i : TypeInfo} {z : Value} {u : Ty} (ht : P.underlying t = some (.slice e)) (hi : P.info? e = some i) (hz : i.zero = some z) (hsz : i.size = u.width) (hzs : z.cells.size = u.width) (hby : i.bytes ≤ 131072)
    {G : Option Nat} {v : Value} {xs : List u.I} (hown : OwnR w F B G v e u xs) {ys : List u.I} {vy : Value} {A : Option Addr} {c : Nat} {news : List Value} (hsrc : Src w F u vy ys A c news) (hroom : xs.length + ys.length ≤ 1073741824) (hB : B w.heap.size)
    (hF : ∀ g, F g → g < w.heap.size) (hG : ∀ g, G = some g → ¬F g) :
    ∃ v' w' G', (Builtin.append_ #[t, t] ty #[v, vy]).run P w = .ok v' w' ∧ w.grownBy w' G ∧ OwnR w' F B G' v' e u (xs ++ ys) ∧ (∀ g, G' = some g → g < w'.heap.size ∧ (G = some g ∨ w.heap.size ≤ g)) := by
  have hones := hsrc.holds.one hsrc.len
  have hbytes : (xs.length + ys.length) * i.bytes ≤ 140737488355328 := by
    have h1 := Nat.mul_le_mul hroom hby
    omega
  have hmax : xs.length + ys.length ≤ maxLen := by simp only [maxLen]; omega
  have hlen2 : news.length = ys.length * i.size := by rw [hsz]; exact hsrc.len
  have grow_same : ∀ (w1 : World) (ob : Obj), Same F w (w.drew.alloc ob) := fun _ ob g hg => Below.heap_alloc w.drew ob g (hF g hg)
  rcases hown with ⟨rfl, rfl, A0, rfl⟩ | ⟨g, cap, us, rfl, hBg, rfl, h1, h2, h3, h4, h5⟩
  · -- nothing was there
    rcases Nat.eq_zero_or_pos ys.length with h0 | h0
    · have hy : ys = [] := List.eq_nil_of_length_eq_zero h0
      subst hy
      refine ⟨.slice A0 0 0, w, none, ?_, ⟨rfl, rfl, rfl, Nat.le_refl _, fun _ _ _ => rfl⟩, .inl ⟨rfl, rfl, A0, rfl⟩, fun g hg => by cases hg⟩
      rw [hsrc.form]
      cases A0 <;> cases A <;> simp [Builtin.append_, run_underlying ht, sizeOf, typeInfo, hi, Builtin.lenOf, Builtin.firstCells, storeCells, loadCells, loadCellsFrom]
    · obtain ⟨ad, rfl, hread⟩ := hsrc.at_ h0
      have hnews : ∀ (j : Nat) x, news[j]? = some x → w.cell? (ad.add j) = some x := fun j x hj => (hread j x hj).1
      have hge := grownCap_ge w ys.length 0 e
      have fin : ∀ cap0 : Nat, ys.length ≤ cap0 → cap0 ≤ maxLen → OwnR (w.drew.alloc (.cells (news.toArray ++ Builtin.zeroCells z.cells (cap0 - ys.length)) e)) F B (some w.heap.size) (.slice (some ⟨w.heap.size, 0, none⟩) ys.length cap0) e u ys := fun cap0 hc1 hc2 => by
        refine .inr ⟨w.heap.size, cap0, _, rfl, hB, rfl, heap_alloc_new w.drew _, hc1, hc2, ?_, ?_⟩
        · simp only [Array.size_append, List.size_toArray, size_zeroCells, hzs, hsrc.len, ← Nat.add_mul]
          congr 1; omega
        · simp only [Array.toList_append]
          exact (hsrc.holds.keep (grow_same w _) (fun _ x => x)).more hsrc.len
      cases A0 with
      | none =>
        have hr := run_append_nil (P := P) w t ty e i z ht hi hz ad ys.length c news hlen2 hnews h0 (by omega) (by simp only [List.length_nil, Nat.zero_add] at hbytes; omega)
        refine ⟨_, _, some w.heap.size, (by rw [hsrc.form]; exact hr), grown_da w _ _, by rw [List.nil_append]; exact fin _ hge (grownCap_le_maxLen w _ 0 e (by simpa using hmax)), fun g hg => by cases hg; simp⟩
      | some a0 =>
        have hr := run_append_grow (P := P) w t ty e i z ht hi hz a0 0 0 [] (by simp) (fun j x hj => by simp at hj) ad ys.length c news hlen2 hnews (by omega) (by omega) (growslice_fits (by omega) (by simpa using hbytes))
        simp only [Nat.zero_add, Array.empty_append] at hr
        refine ⟨_, _, some w.heap.size, (by rw [hsrc.form]; simpa using hr), grown_da w _ _, ?_, fun g hg => by cases hg; simp⟩
        have := fin _ hge (grownCap_le_maxLen w _ 0 e (by simpa using hmax))
        simpa using this
  · have hnF := hG g rfl
    have hown' : w.ownsRow 0 e u.width (.slice (some ⟨g, 0, none⟩) xs.length cap) xs.length (us.toList.take (xs.length * u.width)) :=
      ⟨by rw [List.length_take]; refine Nat.min_eq_left ?_; have := Nat.mul_le_mul_right u.width h2; rw [← h4] at this; simpa using this, .inr ⟨g, cap, us, rfl, Nat.zero_le _, h1, h2, h3, h4, rfl⟩⟩
    have hx : Holds w F u xs (us.toList.take (xs.length * u.width)) := fun k x hk => by
      have := h5 k x hk
      have hil := (List.getElem?_eq_some_iff.1 hk).1
      have hle' : k * u.width + u.width ≤ xs.length * u.width := by rw [← Nat.succ_mul]; exact Nat.mul_le_mul_right _ hil
      rw [List.drop_take, List.take_take, Nat.min_eq_left (by omega)]
      exact this
    have hgl : g < w.heap.size := (Array.getElem?_eq_some_iff.1 h1).1
    rcases Nat.eq_zero_or_pos ys.length with h0 | h0
    · have hy : ys = [] := List.eq_nil_of_length_eq_zero h0
      subst hy
      refine ⟨.slice (some ⟨g, 0, none⟩) xs.length cap, w, some g, ?_, ⟨rfl, rfl, rfl, Nat.le_refl _, fun _ _ _ => rfl⟩, .inr ⟨g, cap, us, rfl, hBg, by simp, h1, by simpa using h2, h3, h4, by simpa using h5⟩, fun g' hg' => by cases hg'; exact ⟨hgl, .inl rfl⟩⟩
      rw [hsrc.form]
      cases A <;> simp [Builtin.append_, run_underlying ht, sizeOf, typeInfo, hi, Builtin.lenOf, Builtin.firstCells, storeCells, loadCells, loadCellsFrom, h2]
    · obtain ⟨ad, rfl, hread⟩ := hsrc.at_ h0
      have hnews : ∀ (j : Nat) x, news[j]? = some x → w.cell? (ad.add j) = some x := fun j x hj => (hread j x hj).1
      have hxl : (us.toList.take (xs.length * u.width)).length = xs.length * u.width := hown'.1
      by_cases hfit : xs.length + ys.length ≤ cap
      · have hr := run_append_room (P := P) w t ty e i ht hi g xs.length cap us h1 ad ys.length c news hlen2 hnews hones hfit (by
          rw [hsrc.len, hsz, h4, ← Nat.add_mul]; exact Nat.mul_le_mul_right _ hfit)
        have hs : Same F w (w.setRow g (us.toList.take (xs.length * i.size) ++ news ++ us.toList.drop (xs.length * i.size + news.length)).toArray) := fun b hb => setRow_other w g b _ (fun e => by subst e; exact hnF hb)
        refine ⟨_, _, some g, (by rw [hsrc.form]; exact hr), grown_sr w g _, .inr ⟨g, cap, _, rfl, hBg, by rw [List.length_append], setRow_heap w g us _ e _ h1, by simpa using hfit, h3, ?_, ?_⟩, fun g' hg' => by cases hg'; exact ⟨by simpa using hgl, .inl rfl⟩⟩
        · have hul : us.toList.length = cap * u.width := by rw [Array.length_toList]; exact h4
          have hm1 : xs.length * u.width + ys.length * u.width ≤ cap * u.width := by rw [← Nat.add_mul]; exact Nat.mul_le_mul_right _ hfit
          simp only [List.size_toArray, List.length_append, List.length_take, List.length_drop, hsz, hsrc.len, hul]
          omega
        · have := (hx.append hxl hsrc.holds).more (u2 := us.toList.drop (xs.length * u.width + news.length)) (by rw [List.length_append, hxl, hsrc.len, List.length_append, Nat.add_mul])
          have h9 := this.keep hs (fun _ x => x)
          simp only [hsz] at h9 ⊢
          exact h9
      · have hge := grownCap_ge w (xs.length + ys.length) cap e
        have holds : ∀ (j : Nat) x, (us.toList.take (xs.length * u.width))[j]? = some x → w.cell? ((⟨g, 0, none⟩ : Addr).add j) = some x := fun j x hj => by
          rw [add_lit, cell_of_row w g _ us e (0, 0) h1]
          rw [List.getElem?_take] at hj
          split at hj
          · simpa using hj
          · cases hj
        have hr := run_append_grow (P := P) w t ty e i z ht hi hz ⟨g, 0, none⟩ xs.length cap (us.toList.take (xs.length * u.width)) (by rw [hsz]; exact hxl) holds ad ys.length c news hlen2 hnews (by omega) (by omega) (growslice_fits (by omega) hbytes)
        refine ⟨_, _, some w.heap.size, (by rw [hsrc.form]; exact hr), grown_da w _ _, .inr ⟨w.heap.size, _, _, rfl, hB, by simp, heap_alloc_new w.drew _, by simpa using hge, grownCap_le_maxLen w _ cap e hmax, ?_, ?_⟩, fun g' hg' => by cases hg'; simp⟩
        · simp only [Array.size_append, List.size_toArray, size_zeroCells, hzs, hsrc.len, hxl, ← Nat.add_mul]
          congr 1; omega
        · simp only [Array.toList_append]
          exact ((hx.append hxl hsrc.holds).more (by rw [List.length_append, hxl, hsrc.len, List.length_append, Nat.add_mul])).keep (grow_same w _) (fun _ x => x)

end
end Go.Proofs.Ytnkinnhgahpcoaa.Vc
