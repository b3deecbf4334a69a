/-
  slices.SortFunc at [][]string, by slices.Compare: what it does with a row of the caller's own (1): the comparison. No condition.
-/
import Derived.Test.YtbchajjppgkgnaaVp
import Derived.Test.YtbchajjppgkgnaaVx
import Derived.Test.YtbchajjppgkgnaaTa
import Derived.Laws.Externs
import Derived.Lib.Walk
import Derived.Deep.LoopGhost
import Derived.Deep.Draws
import Derived.Shelf.RegionOpenPlain
set_option linter.unusedVariables false
set_option linter.unusedSimpArgs false
namespace Go.Proofs.Ytbchajjppgkgnaa.Vc
open Go.RowKit Go.Proofs Go.Lib

def cmpB (a b : List UInt8) : Int := if Op.bytesLess a b = true then -1 else if Op.bytesLess b a = true then 1 else 0
def cmpL : List (List UInt8) → List (List UInt8) → Int
  | [], [] => 0
  | [], _ :: _ => -1
  | _ :: _, [] => 1
  | a :: x, b :: y => if cmpB a b = 0 then cmpL x y else cmpB a b

section
variable {w : World}

theorem isNaN_w (s : ByteArray) : Calls Try.prog 68 #[.string s] w fun e w' => e = .returned (.bool false) ∧ w' = w := by
  have mixed := mixed
  go_enter Try.func68, Try.ntmps68
  go_wp2
  go_ret
  exact ⟨by simp, rfl⟩

theorem compare_w (s t : ByteArray) : Calls Try.prog 54 #[.string s, .string t] w fun e w' => e = .returned (.int .i64 (cmpB s.data.toList t.data.toList)) ∧ w' = w := by
  have mixed := mixed
  go_enter Try.func54, Try.ntmps54
  go_wp2_with (go_at_call 68; refine (isNaN_w _).mono ?_; rintro e w' ⟨rfl, hw⟩; rw [hw])
  · rename_i h
    go_ret
    rw [ByteArray.toList_eq, ByteArray.toList_eq] at h
    refine ⟨?_, rfl⟩
    unfold cmpB
    rw [if_pos h]; rfl
  · rename_i h1 _ _ h
    go_ret
    rw [ByteArray.toList_eq, ByteArray.toList_eq] at h h1
    refine ⟨?_, rfl⟩
    have h2 := bl_not s.data.toList t.data.toList
    rw [h1] at h2
    rw [Bool.not_eq_true'] at h
    rw [h] at h2
    have h3 : Op.bytesLess t.data.toList s.data.toList = true := by simpa using h2.symm
    unfold cmpB
    rw [if_neg (by rw [h1]; simp), if_pos h3]; rfl
  · rename_i h1 h
    go_ret
    rw [ByteArray.toList_eq, ByteArray.toList_eq] at h h1
    refine ⟨?_, rfl⟩
    have h2 : s.data.toList = t.data.toList := by simpa using h
    unfold cmpB
    rw [h2, bl_irrefl]
    rfl

/-- The cells of a row of texts, from an address on. -/
def txtAt (w : World) (A : Option Addr) (xs : List ByteArray) : Prop := ∀ j, j < xs.length → ∃ b o, A = some ⟨b, o, none⟩ ∧ w.cell? ⟨b, o + j, none⟩ = some (.string (xs.getD j ByteArray.empty))
def txts (xs : List ByteArray) : List (List UInt8) := xs.map fun s => s.data.toList

theorem cmpL_drop (xs ys : List ByteArray) (k : Nat) : cmpL (txts (xs.drop k)) (txts (ys.drop k)) =
    if k < xs.length then (if k < ys.length then (if cmpB (xs.getD k ByteArray.empty).data.toList (ys.getD k ByteArray.empty).data.toList = 0 then cmpL (txts (xs.drop (k + 1))) (txts (ys.drop (k + 1))) else cmpB (xs.getD k ByteArray.empty).data.toList (ys.getD k ByteArray.empty).data.toList) else 1) else (if k < ys.length then -1 else 0) := by
  by_cases h1 : k < xs.length
  · rw [if_pos h1]
    have e1 : xs.getD k ByteArray.empty = xs[k] := by simp [h1]
    rw [List.drop_eq_getElem_cons h1]
    by_cases h2 : k < ys.length
    · rw [if_pos h2]
      have e2 : ys.getD k ByteArray.empty = ys[k] := by simp [h2]
      rw [List.drop_eq_getElem_cons h2, e1, e2]
      rfl
    · rw [if_neg h2, List.drop_of_length_le (l := ys) (by omega)]
      rfl
  · rw [if_neg h1, List.drop_of_length_le (l := xs) (by omega)]
    by_cases h2 : k < ys.length
    · rw [if_pos h2, List.drop_eq_getElem_cons h2]
      rfl
    · rw [if_neg h2, List.drop_of_length_le (l := ys) (by omega)]
      rfl

set_option maxHeartbeats 4000000 in
set_option maxRecDepth 100000 in
theorem compareL_w (A B : Option Addr) (c d : Nat) (xs ys : List ByteArray) (h1 : txtAt w A xs) (h2 : txtAt w B ys) (l1 : xs.length ≤ 9223372036854775807) (l2 : ys.length ≤ 9223372036854775807) :
    Calls Try.prog 38 #[.slice A xs.length c, .slice B ys.length d] w fun e w' => e = .returned (.int .i64 (cmpL (txts xs) (txts ys))) ∧ w' = w := by
  have mixed := mixed
  obtain ⟨n, hn⟩ : ∃ n, xs.length = n := ⟨_, rfl⟩
  obtain ⟨m, hm⟩ : ∃ m, ys.length = m := ⟨_, rfl⟩
  obtain ⟨r, hr⟩ : ∃ r, cmpL (txts xs) (txts ys) = r := ⟨_, rfl⟩
  rw [hn, hm, hr]
  rw [hn] at l1
  rw [hm] at l2
  have HA : Aside (txtAt w A xs ∧ txtAt w B ys ∧ xs.length = n ∧ ys.length = m ∧ cmpL (txts xs) (txts ys) = r) := ⟨h1, h2, hn, hm, hr⟩
  clear h1 h2 hn hm hr
  go_enter Try.func38, Try.ntmps38
  go_wp2
  go_loopg [11] n (fun g s11 wr => ∃ k : Nat, k ≤ n ∧ k ≤ m ∧ n - k ≤ g ∧ s11 = .int .i64 k ∧ wr = w ∧ Aside (cmpL (txts (xs.drop k)) (txts (ys.drop k)) = r))
  case atStart => exact ⟨0, Nat.zero_le _, Nat.zero_le _, by omega, rfl, rfl, HA.out.2.2.2.2⟩
  case round =>
    obtain ⟨k, hk, hkm, hg, rfl, rfl, heq⟩ := hrel
    by_cases hlt : k < n
    · by_cases hlm : k < m
      · obtain ⟨b1, o1, rfl, g1⟩ := HA.out.1 k (by rw [HA.out.2.2.1]; exact hlt)
        obtain ⟨b2, o2, rfl, g2⟩ := HA.out.2.1 k (by rw [HA.out.2.2.2.1]; exact hlm)
        generalize hxk : xs.getD k ByteArray.empty = x at g1
        generalize hyk : ys.getD k ByteArray.empty = y at g2
        have hz : cmpL (txts (xs.drop k)) (txts (ys.drop k)) = if cmpB x.data.toList y.data.toList = 0 then cmpL (txts (xs.drop (k + 1))) (txts (ys.drop (k + 1))) else cmpB x.data.toList y.data.toList := by
          rw [cmpL_drop, if_pos (by rw [HA.out.2.2.1]; exact hlt), if_pos (by rw [HA.out.2.2.2.1]; exact hlm), hxk, hyk]
        rw [heq.out] at hz
        have HB : Aside (r = if cmpB x.data.toList y.data.toList = 0 then cmpL (txts (xs.drop (k + 1))) (txts (ys.drop (k + 1))) else cmpB x.data.toList y.data.toList) := hz
        have hC := compare_w (w := wr) x y
        clear hxk hyk hz heq HA
        generalize hcc : cmpB x.data.toList y.data.toList = cc at HB hC
        clear hcc
        have hge : ¬ ((m : Int) ≤ (k : Int)) := by omega
        go_wp2_with (go_at_call 54; refine hC.mono ?_; rintro e w' ⟨rfl, hw⟩; rw [hw])
        · rename_i h
          go_ret
          refine ⟨?_, rfl⟩
          rw [HB.out, if_neg (by simpa using h)]
          rfl
        · rename_i h
          go_roundg (n - (k + 1))
          case measure => omega
          case rel =>
            refine ⟨k + 1, by omega, by omega, by omega, by go_num, rfl, ?_⟩
            show cmpL _ _ = r
            rw [HB.out, if_pos (by simpa using h)]
      · have hz : r = 1 := by
          rw [← heq.out, cmpL_drop, if_pos (by rw [HA.out.2.2.1]; exact hlt), if_neg (by rw [HA.out.2.2.2.1]; exact hlm)]
        obtain ⟨b1, o1, rfl, g1⟩ := HA.out.1 k (by rw [HA.out.2.2.1]; exact hlt)
        generalize hxk : xs.getD k ByteArray.empty = x at g1
        subst hz
        clear heq HA hxk
        have hge : (m : Int) ≤ (k : Int) := by omega
        go_wp2
        go_ret
        exact ⟨rfl, rfl⟩
    · have hkn : k = n := by omega
      subst hkn
      have hz := heq.out
      rw [cmpL_drop, if_neg (by rw [HA.out.2.2.1]; exact hlt)] at hz
      rw [HA.out.2.2.2.1] at hz
      have HB : Aside ((if k < m then (-1 : Int) else 0) = r) := hz
      clear hz heq HA
      by_cases hlm : k < m
      · have hl : (k : Int) < (m : Int) := by omega
        go_wp2
        go_ret
        refine ⟨?_, rfl⟩
        rw [← HB.out, if_pos hlm]
        rfl
      · have hl : ¬ (k : Int) < (m : Int) := by omega
        go_wp2
        go_ret
        refine ⟨?_, rfl⟩
        rw [← HB.out, if_neg hlm]
        rfl

end
end Go.Proofs.Ytbchajjppgkgnaa.Vc
