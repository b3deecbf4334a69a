/-
  slices.CompactFunc at [][]string, by slices.Equal: what it does with a row of the caller's own. No condition.
-/
import Derived.Test.YtbchajjppgkgnaaSo
import Derived.Test.YtbchajjppgkgnaaMt
import Derived.Shelf.SlSortCmp.Kit1
import Derived.Lib.SlicesCompact
import Derived.Lib.SliceRun
import Derived.Lib.SlicesS
set_option linter.unusedVariables false
set_option linter.unusedSimpArgs false
namespace Go.Proofs.Ytbchajjppgkgnaa.Vc
open Go.RowKit Go.Proofs Go.Sort Go.Lib

section
variable {w : World}
set_option maxHeartbeats 4000000 in
set_option maxRecDepth 100000 in
theorem equalL_w (A B : Option Addr) (c d : Nat) (xs ys : List ByteArray) (h1 : txtAt w A xs) (h2 : txtAt w B ys) (l1 : xs.length ≤ 9223372036854775807) (l2 : ys.length ≤ 9223372036854775807) :
    Calls Try.prog 41 #[.slice A xs.length c, .slice B ys.length d] w fun e w' => e = .returned (.bool (decide (xs = ys))) ∧ ∃ q, w' = w.drewN q := by
  have mixed := mixed
  obtain ⟨n, hn⟩ : ∃ n, xs.length = n := ⟨_, rfl⟩
  obtain ⟨m, hm⟩ : ∃ m, ys.length = m := ⟨_, rfl⟩
  obtain ⟨r, hr⟩ : ∃ r, decide (xs = ys) = r := ⟨_, rfl⟩
  rw [hn, hm, hr]
  rw [hn] at l1
  rw [hm] at l2
  have HA : Aside (txtAt w A xs ∧ txtAt w B ys ∧ xs.length = n ∧ ys.length = m ∧ decide (xs = ys) = r) := ⟨h1, h2, hn, hm, hr⟩
  clear h1 h2 hn hm hr
  by_cases hnm : n = m
  · subst hnm
    go_enter Try.func41, Try.ntmps41
    go_wp2
    go_loopg [13] n (fun g s13 wr => ∃ k q : Nat, k ≤ n ∧ n - k ≤ g ∧ s13 = .int .i64 k ∧ wr = w.drewN q ∧ Aside (xs.take k = ys.take k))
    case atStart => exact ⟨0, 0, Nat.zero_le _, by omega, rfl, rfl, by show _ = _; simp⟩
    case round =>
      obtain ⟨k, q, hk, hg, rfl, rfl, heq⟩ := hrel
      by_cases hlt : k < n
      · obtain ⟨b1, o1, rfl, g1⟩ := HA.out.1 k (by rw [HA.out.2.2.1]; exact hlt)
        obtain ⟨b2, o2, rfl, g2⟩ := HA.out.2.1 k (by rw [HA.out.2.2.2.1]; exact hlt)
        have hkx : k < xs.length := by rw [HA.out.2.2.1]; exact hlt
        have hky : k < ys.length := by rw [HA.out.2.2.2.1]; exact hlt
        have e1 : xs.getD k ByteArray.empty = xs[k] := by simp [hkx]
        have e2 : ys.getD k ByteArray.empty = ys[k] := by simp [hky]
        rw [e1] at g1
        rw [e2] at g2
        by_cases hxy : xs[k] = ys[k]
        · have heq2 : Aside (xs.take (k + 1) = ys.take (k + 1)) := by
            show _ = _
            rw [List.take_succ_eq_append_getElem hkx, List.take_succ_eq_append_getElem hky, heq.out, hxy]
          rw [← hxy] at g2
          generalize xs[k] = x at g1 g2
          clear heq hkx hky e1 e2 hxy
          go_wp2_with fail
          go_region_o
          go_wp2
          go_roundg (n - (k + 1))
          case measure => omega
          case rel => exact ⟨k + 1, q + 1, by omega, by omega, by go_num, rfl, heq2⟩
        · have hxy' : ((xs[k]).toList == (ys[k]).toList) = false := (Lib.bytes_beq_false_iff _ _).2 hxy
          have hr : r = false := by
            rw [← HA.out.2.2.2.2]
            refine decide_eq_false fun e => ?_
            subst e
            exact hxy rfl
          subst hr
          clear HA heq
          generalize xs[k] = x at *
          generalize ys[k] = y at *
          clear hkx hky e1 e2 hxy
          go_wp2_with fail
          go_region_o
          go_wp2
          go_ret
          exact ⟨rfl, q + 1, rfl⟩
      · have hkn : k = n := by omega
        subst hkn
        have hr : r = true := by
          rw [← HA.out.2.2.2.2]
          refine decide_eq_true ?_
          have h := heq.out
          rwa [List.take_of_length_le (by rw [HA.out.2.2.1]; exact Nat.le_refl _), List.take_of_length_le (by rw [HA.out.2.2.2.1]; exact Nat.le_refl _)] at h
        subst hr
        clear HA heq
        go_wp2
        go_ret
        exact ⟨rfl, q, rfl⟩
  · have hnm' : ¬ (n : Int) = (m : Int) := by omega
    have hr : r = false := by
      rw [← HA.out.2.2.2.2]
      refine decide_eq_false fun e => ?_
      have h3 := HA.out.2.2.1
      have h4 := HA.out.2.2.2.1
      rw [e] at h3
      omega
    subst hr
    clear HA
    go_enter Try.func41, Try.ntmps41
    go_wp2
    go_ret
    exact ⟨rfl, 0, rfl⟩

theorem txts_inj {xs ys : List ByteArray} : txts xs = txts ys ↔ xs = ys := by
  constructor
  · intro h
    refine List.map_inj_right (f := fun s : ByteArray => s.data.toList) (fun a b hab => ?_) |>.1 h
    cases a; cases b
    congr 1
    exact Array.toList_inj.1 hab
  · rintro rfl; rfl

set_option maxHeartbeats 1000000 in
theorem closeq_w (A B : Option Addr) (c d : Nat) (xs ys : List ByteArray) (h1 : txtAt w A xs) (h2 : txtAt w B ys) (l1 : xs.length ≤ 9223372036854775807) (l2 : ys.length ≤ 9223372036854775807) :
    Calls Try.prog 40 #[.slice A xs.length c, .slice B ys.length d] w fun e w' => e = .returned (.bool (decide (txts xs = txts ys))) ∧ ∃ q, w' = w.drewN q := by
  have mixed := mixed
  have hC := equalL_w A B c d xs ys h1 h2 l1 l2
  have e : decide (xs = ys) = decide (txts xs = txts ys) := by simp only [txts_inj]
  rw [e] at hC
  generalize decide (txts xs = txts ys) = r at hC ⊢
  clear h1 h2 e
  generalize xs.length = n at hC ⊢
  generalize ys.length = m at hC ⊢
  go_enter Try.func40, Try.ntmps40
  go_wp2_with (go_at_call 41; refine hC.mono ?_; rintro e w' ⟨rfl, q, hw⟩; rw [hw])
  go_ret
  exact ⟨rfl, q, rfl⟩
end

section
open Go.Sort
variable {α : Type} [Inhabited α]

/-- What is asked of 'eq'. -/
def EqLays (P : Program) (g : Nat) (cb : Array Value) (enc : α → Value) (key : α → List Bs) (blk off size : Nat) (w : World) : Prop :=
  ∀ (m : Nat) (os : Array Obj) (dk : Array α), dk.size = size → ∀ x y : α,
    Calls P g (#[enc x, enc y] ++ cb) (sortWorld enc w blk off m dk os) fun e w' => e = .returned (.bool (decide (key x = key y))) ∧ ∃ q os', w' = grow ((sortWorld enc w blk off m dk os).drewN q) os'

variable {P : Program} {enc : α → Value} {w0 W : World} {blk off : Nat} {dk : Array α}
theorem sw_eq {g : Nat} {cb : Array Value} {key : α → List Bs} {size : Nat} (h : SW enc w0 blk off dk W) (hC : EqLays P g cb enc key blk off size w0) (hs : dk.size = size) (x y : α) (n : Nat) (os : Array Obj) :
    Calls P g (#[enc x, enc y] ++ cb) (grow (W.drewN n) os) fun e w' => e = .returned (.bool (decide (key x = key y))) ∧ ∃ q os', w' = grow ((grow (W.drewN n) os).drewN q) os' := by
  obtain ⟨m, os0, hw⟩ := h.grown n os
  rw [hw]
  exact hC m os0 dk hs x y
theorem sw_set {d0 : Array α} (h : SW enc w0 blk off dk W) (R : Row1 enc w0 blk off d0) (i : Nat) (hi : i < dk.size) (x : α) : SW enc w0 blk off (dk.setIfInBounds i x) (W.setCell ⟨blk, off + i, none⟩ (enc x)) := by
  obtain ⟨n, os, rfl⟩ := h
  refine ⟨n, os, ?_⟩
  unfold sortWorld
  rw [← putRow_grow enc (Sort.ahead w0 n) os blk off dk R.hblk, putRow_set enc _ blk off dk i x hi, putRow_grow enc (Sort.ahead w0 n) os blk off _ R.hblk]
theorem sw_lay {d0 : Array α} (R : Row1 enc w0 blk off d0) : ∀ (xs : List α) (dk : Array α) (W : World) (k : Nat), SW enc w0 blk off dk W → k + xs.length ≤ dk.size → SW enc w0 blk off (lay dk k xs) (W.setCells blk (off + k) (xs.map enc))
  | [], _, _, _, h, _ => h
  | x :: r, dk, W, k, h, hk => by
    have hl : k + (r.length + 1) ≤ dk.size := by simpa using hk
    simp only [List.map_cons, World.setCells, lay]
    rw [show off + k + 1 = off + (k + 1) by omega]
    exact sw_lay R r _ _ (k + 1) (sw_set h R k (by omega) x) (by simp; omega)
omit [Inhabited α] in
theorem lay_size : ∀ (xs : List α) (d : Array α) (k : Nat), (lay d k xs).size = d.size
  | [], _, _ => rfl
  | x :: r, d, k => by rw [lay, lay_size r]; simp
omit [Inhabited α] in
theorem lay_low (xs : List α) (d : Array α) (k : Nat) (h : k + xs.length ≤ d.size) : (lay d k xs).toList.take k = d.toList.take k := by
  apply List.ext_getElem?
  intro j
  rw [List.getElem?_take, List.getElem?_take]
  split
  · rename_i hj
    rw [Array.getElem?_toList, Array.getElem?_toList, lay_get? _ _ _ _ h, if_neg (by omega)]
  · rfl

/-! ### What the loops keep -/

theorem dd_take (l : List (List Bs)) {m : Nat} (h0 : 0 < m) (h : m < l.length) : dd (l.take (m + 1)) = if l[m] = l[m - 1]'(by omega) then dd (l.take m) else dd (l.take m) ++ [l[m]] := by
  rw [List.take_succ_eq_append_getElem h, dd_snoc]
  unfold ddS
  rw [dd_last]
  have e : (l.take m).getLast? = some (l[m - 1]'(by omega)) := by
    rw [List.getLast?_eq_getElem?, List.length_take, Nat.min_eq_left (by omega), List.getElem?_take, if_pos (by omega), List.getElem?_eq_getElem (by omega)]
  rw [e]
  by_cases h1 : l[m] = l[m - 1]'(by omega)
  · rw [if_pos h1, if_pos (by rw [h1])]
  · rw [if_neg h1, if_neg (by intro e; injection e with e; exact h1 e.symm)]
theorem dd_all (l : List (List Bs)) : ∀ m, m ≤ l.length → (∀ j (h : j < l.length), 0 < j → j < m → l[j] ≠ l[j - 1]'(by omega)) → dd (l.take m) = l.take m
  | 0, _, _ => rfl
  | m + 1, hm, h => by
    have ih := dd_all l m (by omega) fun j hj h0 h1 => h j hj h0 (by omega)
    rcases Nat.eq_zero_or_pos m with h0 | h0
    · subst h0
      cases l with
      | nil => rfl
      | cons a r => rfl
    · rw [dd_take l h0 (by omega), if_neg (h m (by omega) h0 (by omega)), ih, ← List.take_succ_eq_append_getElem]

structure CInv (key : α → List Bs) (d : Array α) (m k : Nat) (dk : Array α) : Prop where
  size : dk.size = d.size
  lt : k < m
  low : (dk.toList.take k).map key = dd ((d.toList.map key).take m)
  high : ∀ j, k ≤ j → dk[j]! = d[j]!
variable {key : α → List Bs} {d : Array α}
theorem key_at {j : Nat} (h : j < d.size) : (d.toList.map key)[j]'(by simpa using h) = key d[j]! := by
  rw [List.getElem_map, Array.getElem_toList, getElem!_pos d j h]
theorem cinv_all {m : Nat} (hm : m ≤ d.size) (h : ∀ j, 0 < j → j < m → key d[j]! ≠ key d[j - 1]!) : (d.toList.take m).map key = dd ((d.toList.map key).take m) := by
  rw [dd_all _ m (by simpa using hm), List.map_take]
  intro j hj h0 h1
  have hj' : j < d.size := by simpa using hj
  rw [key_at hj', key_at (by omega)]
  exact h j h0 h1
theorem CInv.start {k0 : Nat} (h0 : 0 < k0) (hk : k0 < d.size) (h : ∀ j, 0 < j → j < k0 → key d[j]! ≠ key d[j - 1]!) (he : key d[k0]! = key d[k0 - 1]!) : CInv key d (k0 + 1) k0 d where
  size := rfl
  lt := Nat.lt_succ_self _
  low := by
    rw [cinv_all (by omega) h, dd_take _ h0 (by simpa using hk), if_pos (by rw [key_at hk, key_at (by omega)]; exact he)]
  high := fun _ _ => rfl
theorem CInv.skip {m k : Nat} (h : CInv key d m k dk) (hm : m < d.size) (he : key d[m]! = key d[m - 1]!) : CInv key d (m + 1) k dk where
  size := h.size
  lt := by have := h.lt; omega
  low := by
    have := h.lt
    rw [dd_take _ (by omega) (by simpa using hm), if_pos (by rw [key_at hm, key_at (by omega)]; exact he)]; exact h.low
  high := h.high
theorem CInv.keep {m k : Nat} (h : CInv key d m k dk) (hm : m < d.size) (he : key d[m]! ≠ key d[m - 1]!) : CInv key d (m + 1) (k + 1) (dk.setIfInBounds k d[m]!) where
  size := by simp [h.size]
  lt := by have := h.lt; omega
  low := by
    have h1 := h.lt
    have h2 := h.size
    rw [dd_take _ (by omega) (by simpa using hm), if_neg (by rw [key_at hm, key_at (by omega)]; exact he), ← h.low, key_at hm]
    have hk : k < (dk.setIfInBounds k d[m]!).toList.length := by simp; omega
    rw [List.take_succ_eq_append_getElem hk, List.map_append]
    congr 1
    · congr 1
      apply List.ext_getElem?
      intro j
      rw [List.getElem?_take, List.getElem?_take]
      split
      · rw [Array.getElem?_toList, Array.getElem?_toList, Array.getElem?_setIfInBounds, if_neg (by omega)]
      · rfl
    · simp
  high := fun j hj => by rw [getElem!_set_other dk k j _ (by omega), h.high j (by omega)]

set_option maxHeartbeats 16000000 in
set_option maxRecDepth 1000000 in
theorem compactFn_w (enc : α → Value) (hO : OneCell enc) (key : α → List Bs) (g : Nat) (cb : Array Value) (eg : ∀ args w, (callFunc g args).run Try.prog w = .ok (.enter g args) w) (blk off cap : Nat) (d : Array α) (w : World) (hE : EqLays Try.prog g cb enc key blk off d.size w) (hH : Go.Sort.Holds enc w blk off d) (hblk : blk < w.heap.size) (zr : α) (hz : enc zr = .slice none 0 0) (hsz : d.size < 4611686018427387904) (hcap : d.size ≤ cap) (hcap63 : cap ≤ 9223372036854775807) :
    Calls Try.prog 39 #[.slice (some ⟨blk, off, none⟩) d.size cap, .func (.func g) #[] cb] w fun e w' => ∃ k dk, e = .returned (.slice (some ⟨blk, off, none⟩) k cap) ∧ k ≤ d.size ∧ dk.size = d.size ∧ (dk.toList.take k).map key = dd (d.toList.map key) ∧ SW enc w blk off dk w' := by
  have mixed := mixed
  have R : Row1 enc w blk off d := ⟨hO, hH, hblk⟩
  have hcl0 := hO.cells
  simp only [Value.cells] at hcl0
  have hst := hO.store Try.prog
  have S0 : Aside (SW enc w blk off d w) := SW.start hH
  have HC : Aside _ := hE
  have HR : Aside _ := R
  have hwhole : (d.toList.map key).take d.size = d.toList.map key := List.take_of_length_le (by simp)
  have HW : Aside _ := hwhole
  have htk : d.toList.take d.size = d.toList := List.take_of_length_le (by simp)
  have HT : Aside _ := htk
  have HZ : Aside _ := hz
  clear hE hH R hwhole htk hz
  by_cases h2 : d.size < 2
  · have h2' : (d.size : Int) < 2 := by omega
    go_enter Try.func39, Try.ntmps39
    go_wp2
    go_ret
    refine ⟨d.size, d, rfl, Nat.le_refl _, rfl, ?_, S0.out⟩
    rw [cinv_all (Nat.le_refl _) (fun j hj0 hj1 => by omega), HW.out]
  · have h2' : ¬ (d.size : Int) < 2 := by omega
    go_enter Try.func39, Try.ntmps39
    go_wp2
    go_loopg [5] d.size (fun g1 s5 wr => ∃ kp : Nat, s5 = .int .i64 ((kp : Int) + 1) ∧ kp + 1 ≤ d.size ∧ d.size - (kp + 1) ≤ g1 ∧ Aside (SW enc w blk off d wr) ∧ Hid (∀ j, 0 < j → j < kp + 1 → key d[j]! ≠ key d[j - 1]!))
    case atStart => exact ⟨0, by rfl, by omega, by omega, S0, fun j h0 h1 => by omega⟩
    case round =>
      clear S0
      obtain ⟨kp, rfl, hk, hg1, S1, HA⟩ := hrel
      by_cases hlt : kp + 1 < d.size
      · have hltz : (kp : Int) + 1 < (d.size : Int) := by omega
        obtain ⟨iN, hiN⟩ : ∃ q, q = kp + 1 := ⟨_, rfl⟩
        obtain ⟨jN, hjN⟩ : ∃ q, q = kp := ⟨_, rfl⟩
        have ea : ((kp : Int) + 1).toNat = iN := by omega
        have pa : (0 : Int) ≤ (kp : Int) + 1 := by omega
        have ra : IntKind.i64.wrap ((kp : Int) + 1) = (kp : Int) + 1 := by rw [IntKind.wrap_i64]; omega
        have ec : ((kp : Int)).toNat = jN := by omega
        have pc : (0 : Int) ≤ (kp : Int) := by omega
        have bc : (kp : Int) < (d.size : Int) := by omega
        have rc : IntKind.i64.wrap ((kp : Int)) = (kp : Int) := by rw [IntKind.wrap_i64]; omega
        obtain ⟨x, hx⟩ : ∃ x, x = d[kp + 1]! := ⟨_, rfl⟩
        obtain ⟨y, hy⟩ : ∃ x, x = d[kp]! := ⟨_, rfl⟩
        have la := S1.out.cl HR.out rfl (kp + 1) (by omega)
        have lb := S1.out.cl HR.out rfl kp (by omega)
        rw [← hx, ← hiN] at la
        rw [← hy, ← hjN] at lb
        have hc := sw_eq S1.out HC.out rfl x y
        have HXY : Aside (x = d[kp + 1]! ∧ y = d[kp]! ∧ iN = kp + 1 ∧ jN = kp) := ⟨hx, hy, hiN, hjN⟩
        clear hx hy hiN hjN
        go_wp2_with fail
        go_quiet_grown (first | (go_at_fn g; refine Calls.grown_of (hc _ _)))
        have S2 : Aside (SW enc w blk off d (grow (wr.drewN nq) osq)) := S1.out.grown nq osq
        clear la lb hc S1
        generalize grow (wr.drewN nq) osq = w2 at S2 ⊢
        clear nq osq
        cases hkk : decide (key x = key y) with
        | true =>
          have hxy : key x = key y := of_decide_eq_true hkk
          have HK : Aside (key d[kp + 1]! = key d[kp + 1 - 1]!) := by
            show _ = _
            rw [Nat.add_sub_cancel, ← HXY.out.1, ← HXY.out.2.1]; exact hxy
          have HI : Aside (iN = kp + 1) := HXY.out.2.2.1
          clear hkk hxy HXY
          have s1 : (kp : Int) + 1 ≤ (d.size : Int) := by omega
          have s2 : (d.size : Int) ≤ (cap : Int) := by omega
          have s3 : (kp : Int) + 1 ≤ (cap : Int) := by omega
          have hiN : iN < d.size := by have := HI.out; omega
          go_wp2
          go_loopg [5, 7] d.size (fun g2 s5 s7 wr2 => ∃ (kk k2p : Nat) (dk : Array α), s5 = .int .i64 (kk : Int) ∧ s7 = .int .i64 ((k2p : Int) + 1) ∧ iN + (k2p + 1) ≤ d.size ∧ d.size - (iN + (k2p + 1)) ≤ g2 ∧ dk.size = d.size ∧ kk < d.size ∧ Aside (SW enc w blk off dk wr2) ∧ Hid (CInv key d (iN + (k2p + 1)) kk dk))
          case atStart =>
            refine ⟨iN, 0, d, by have := HI.out; congr 1; omega, by rfl, by omega, by omega, rfl, hiN, S2, ?_⟩
            have := HI.out
            subst this
            exact CInv.start (by omega) (by omega) HA.out HK.out
          case round =>
            clear S2
            obtain ⟨kk, k2p, dk, rfl, rfl, hle, hg2, hds, hkk, S3, HV⟩ := hrel
            have t1 : (kk : Int) ≤ (d.size : Int) := by omega
            have t2 : (kk : Int) ≤ (cap : Int) := by omega
            have t3 : (kk : Int) < (d.size : Int) := by omega
            by_cases hlt2 : iN + (k2p + 1) < d.size
            · have hl2 : (k2p : Int) + 1 < ((d.size - iN : Nat) : Int) := by omega
              obtain ⟨aN, haN⟩ : ∃ q, q = k2p + 1 := ⟨_, rfl⟩
              obtain ⟨bN, hbN⟩ : ∃ q, q = k2p := ⟨_, rfl⟩
              have ea2 : ((k2p : Int) + 1).toNat = aN := by omega
              have pa2 : (0 : Int) ≤ (k2p : Int) + 1 := by omega
              have ra2 : IntKind.i64.wrap ((k2p : Int) + 1) = (k2p : Int) + 1 := by rw [IntKind.wrap_i64]; omega
              have ra3 : IntKind.i64.wrap ((k2p : Int) + 1 + 1) = (k2p : Int) + 1 + 1 := by rw [IntKind.wrap_i64]; omega
              have ra4 : IntKind.i64.wrap ((kk : Int) + 1) = (kk : Int) + 1 := by rw [IntKind.wrap_i64]; omega
              have ec2 : ((k2p : Int)).toNat = bN := by omega
              have pc2 : (0 : Int) ≤ (k2p : Int) := by omega
              have bc2 : (k2p : Int) < ((d.size - iN : Nat) : Int) := by omega
              have rc2 : IntKind.i64.wrap ((k2p : Int)) = (k2p : Int) := by rw [IntKind.wrap_i64]; omega
              obtain ⟨u, hu⟩ : ∃ x, x = dk[iN + (k2p + 1)]! := ⟨_, rfl⟩
              obtain ⟨v, hv⟩ : ∃ x, x = dk[iN + k2p]! := ⟨_, rfl⟩
              have la := S3.out.cl HR.out hds (iN + (k2p + 1)) (by omega)
              have lb := S3.out.cl HR.out hds (iN + k2p) (by omega)
              rw [← hu, show off + (iN + (k2p + 1)) = off + iN + aN by omega] at la
              rw [← hv, show off + (iN + k2p) = off + iN + bN by omega] at lb
              have hc := sw_eq S3.out HC.out hds u v
              have HXY : Aside (u = d[iN + (k2p + 1)]! ∧ v = d[iN + k2p]! ∧ aN = k2p + 1 ∧ u = dk[iN + (k2p + 1)]!) := by
                have h9 := HV.out.high
                have h8 := HV.out.lt
                by_cases hkl : kk ≤ iN + k2p
                · exact ⟨by rw [hu, h9 _ (by omega)], by rw [hv, h9 _ hkl], haN, hu⟩
                · exact absurd h8 (by omega)
              clear hu hv haN hbN
              go_wp2_with fail
              go_quiet_grown (first | (go_at_fn g; refine Calls.grown_of (hc _ _)))
              have S4 : Aside (SW enc w blk off dk (grow (wr.drewN nq) osq)) := S3.out.grown nq osq
              clear la lb hc S3
              generalize grow (wr.drewN nq) osq = w3 at S4 ⊢
              clear nq osq ec2
              cases hkk2 : decide (key u = key v) with
              | true =>
                have hxy : key u = key v := of_decide_eq_true hkk2
                have HV2 : Hid (CInv key d (iN + (k2p + 1) + 1) kk dk) := HV.out.skip (by omega) (by
                  rw [show iN + (k2p + 1) - 1 = iN + k2p by omega, ← HXY.out.1, ← HXY.out.2.1]; exact hxy)
                clear hkk2 hxy HXY HV ea2
                go_wp2
                go_roundg (d.size - (iN + (k2p + 2)))
                case measure => omega
                case rel => exact ⟨kk, k2p + 1, dk, rfl, by go_num, by omega, by omega, hds, hkk, S4, HV2⟩
              | false =>
                have hxy : ¬ key u = key v := of_decide_eq_false hkk2
                have HV2 : Hid (CInv key d (iN + (k2p + 1) + 1) (kk + 1) (dk.setIfInBounds kk u)) := by
                  rw [HXY.out.1]
                  exact HV.out.keep (by omega) (by
                    rw [show iN + (k2p + 1) - 1 = iN + k2p by omega, ← HXY.out.1, ← HXY.out.2.1]; exact hxy)
                have ck := S4.out.c1 HR.out hds kk (by omega)
                have fk := S4.out.f1 HR.out hds kk (by omega)
                have cu := S4.out.c1 HR.out hds (iN + (k2p + 1)) (by omega)
                rw [← HXY.out.2.2.2, show off + (iN + (k2p + 1)) = off + iN + aN by have := HXY.out.2.2.1; omega] at cu
                have S5 : Aside (SW enc w blk off (dk.setIfInBounds kk u) (w3.setCell ⟨blk, off + kk, none⟩ (enc u))) := sw_set S4.out HR.out kk (by omega) u
                generalize dk[kk]! = old at ck
                have hkk9 : kk + 1 < d.size := by have := HV.out.lt; omega
                clear hkk2 hxy HXY HV S4
                go_wp2
                go_roundg (d.size - (iN + (k2p + 2)))
                case measure => omega
                case rel => exact ⟨kk + 1, k2p + 1, _, by go_num, by go_num, by omega, by omega, by simpa using hds, hkk9, S5, HV2⟩
            · have hend : iN + (k2p + 1) = d.size := by omega
              have hl2 : ¬ (k2p : Int) + 1 < ((d.size - iN : Nat) : Int) := by omega
              have hcl : ∀ ty, (Builtin.clear_ #[25] ty #[.slice (some ⟨blk, off + kk, none⟩) (d.size - kk) (cap - kk)]).run Try.prog wr = .ok (.tuple #[]) (wr.setCells blk (off + kk) (List.replicate (d.size - kk) (enc zr))) :=
                fun ty => Lib.run_clear_slice wr 25 36 ty _ Try.underlying25 (fun w => by rw [HZ.out]; rfl) (hO.cells zr) (hO zr) blk (off + kk) _ _ (by omega) (fun j hj => by rw [show off + kk + j = off + (kk + j) by omega, S3.out.c1 HR.out hds (kk + j) (by omega)]; rfl) (fun j hj => by rw [show off + kk + j = off + (kk + j) by omega]; exact S3.out.f1 HR.out hds (kk + j) (by omega))
              have S4 : Aside (SW enc w blk off (lay dk kk (List.replicate (d.size - kk) zr)) (wr.setCells blk (off + kk) (List.replicate (d.size - kk) (enc zr)))) := by
                have := sw_lay HR.out (List.replicate (d.size - kk) zr) dk wr kk S3.out (by simp; omega)
                rwa [List.map_replicate] at this
              go_wp2
              go_ret
              refine ⟨kk, rfl, by omega, _, ?_, ?_, S4.out⟩
              · rw [lay_size]; exact hds
              · rw [← List.map_take, lay_low _ _ _ (by simp; omega), HV.out.low, hend, HW.out]
        | false =>
          have hxy : ¬ key x = key y := of_decide_eq_false hkk
          have HA2 : Hid (∀ j, 0 < j → j < kp + 1 + 1 → key d[j]! ≠ key d[j - 1]!) := fun j h0 h1 => by
            by_cases e : j = kp + 1
            · subst e
              rw [Nat.add_sub_cancel, ← HXY.out.1, ← HXY.out.2.1]; exact hxy
            · exact HA.out j h0 (by omega)
          have ra3 : IntKind.i64.wrap ((kp : Int) + 1 + 1) = (kp : Int) + 1 + 1 := by rw [IntKind.wrap_i64]; omega
          clear hkk hxy HXY HA ea ec
          go_wp2
          go_roundg (d.size - (kp + 2))
          case measure => omega
          case rel => exact ⟨kp + 1, by go_num, by omega, by omega, S2, HA2⟩
      · have hltz : ¬ (kp : Int) + 1 < (d.size : Int) := by omega
        have hkd : kp + 1 = d.size := by omega
        go_wp2
        go_ret
        refine ⟨d.size, rfl, Nat.le_refl _, d, rfl, ?_, S1.out⟩
        rw [← List.map_take, cinv_all (Nat.le_refl _) (fun j hj0 hj1 => HA.out j hj0 (by omega)), HW.out]
end
end Go.Proofs.Ytbchajjppgkgnaa.Vc
