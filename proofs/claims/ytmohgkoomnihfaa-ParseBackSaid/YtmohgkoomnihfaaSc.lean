/-
  slices.SortFunc at []int, by the words of nodes (the closure of sorted, which holds the nodes): what it does with a row of the caller's own. No condition.
-/
import Derived.Test.YtmohgkoomnihfaaSr
import Derived.Test.YtmohgkoomnihfaaSh
import Derived.Test.YtmohgkoomnihfaaVp
import Derived.Test.YtmohgkoomnihfaaEt
import Derived.Test.YtmohgkoomnihfaaCg
import Derived.Shelf.SlSortCmp.NoneTotal
import Derived.Shelf.Lay
import Derived.Ground.SlsfProg
import Derived.Laws.Externs
import Derived.Lib.Walk
import Derived.Deep.Draws
import Derived.Deep.QuietTactic
import Derived.BigQuiet
import Derived.Shelf.RegionOpenPlain
set_option linter.unusedVariables false
set_option linter.unusedSimpArgs false
set_option maxRecDepth 100000
namespace Go.Proofs
open Go.Shelf
def Try.sortI_ren : Go.Shelf.Ren := ⟨fun | 6 => 45 | 15 => 69 | 14 => 68 | 28 => 91 | 29 => 92 | 20 => 83 | 21 => 84 | 22 => 85 | 23 => 86 | 24 => 87 | 25 => 88 | 26 => 89 | 27 => 90 | 46 => 102 | 47 => 103 | 48 => 104 | 49 => 105 | 50 => 106 | 57 => 112 | n => n, fun | 22 => 50 | 24 => 3 | 25 => 92 | 3 => 3 | 39 => 109 | 0 => 0 | 53 => 128 | 55 => 130 | 4 => 4 | 46 => 122 | 45 => 121 | 50 => 64 | 5 => 5 | 9 => 9 | 66 => 137 | 70 => 141 | 76 => 145 | 77 => 84 | n => n, fun | n => n⟩
theorem Try.sortI : Go.Proofs.SlLaysF.n6 Try.prog Try.sortI_ren := {
  mixed := by kernel_rfl
  f6 := ⟨Try.f45.name, by decide, Try.func45.trans (congrArg some (by kernel_rfl))⟩
  f14 := ⟨Try.f68.name, by decide, Try.func68.trans (congrArg some (by kernel_rfl))⟩
  f15 := Try.func69.trans (congrArg some (by kernel_rfl))
  f20 := ⟨Try.f83.name, by decide, Try.func83.trans (congrArg some (by kernel_rfl))⟩
  f21 := ⟨Try.f84.name, by decide, Try.func84.trans (congrArg some (by kernel_rfl))⟩
  f22 := ⟨Try.f85.name, by decide, Try.func85.trans (congrArg some (by kernel_rfl))⟩
  f23 := ⟨Try.f86.name, by decide, Try.func86.trans (congrArg some (by kernel_rfl))⟩
  f24 := ⟨Try.f87.name, by decide, Try.func87.trans (congrArg some (by kernel_rfl))⟩
  f25 := ⟨Try.f88.name, by decide, Try.func88.trans (congrArg some (by kernel_rfl))⟩
  f26 := ⟨Try.f89.name, by decide, Try.func89.trans (congrArg some (by kernel_rfl))⟩
  f27 := ⟨Try.f90.name, by decide, Try.func90.trans (congrArg some (by kernel_rfl))⟩
  f28 := Try.func91.trans (congrArg some (by kernel_rfl))
  f29 := Try.func92.trans (congrArg some (by kernel_rfl))
  f46 := ⟨Try.f102.name, by decide, Try.func102.trans (congrArg some (by kernel_rfl))⟩
  f47 := Try.func103.trans (congrArg some (by kernel_rfl))
  f48 := Try.func104.trans (congrArg some (by kernel_rfl))
  f49 := ⟨Try.f105.name, by decide, Try.func105.trans (congrArg some (by kernel_rfl))⟩
  f50 := ⟨Try.f106.name, by decide, Try.func106.trans (congrArg some (by kernel_rfl))⟩
  f57 := ⟨Try.f112.name, by decide, Try.func112.trans (congrArg some (by kernel_rfl))⟩
  t0 := Try.underlying0
  a0 := Try.isAgg0
  z0 := Try.sizeOf0
  v0 := Try.zeroValue0
  t3 := Try.underlying3
  a3 := Try.isAgg3
  z3 := Try.sizeOf3
  v3 := Try.zeroValue3
  t4 := Try.underlying4
  a4 := Try.isAgg4
  z4 := Try.sizeOf4
  v4 := Try.zeroValue4
  t5 := Try.underlying5
  a5 := Try.isAgg5
  z5 := Try.sizeOf5
  v5 := Try.zeroValue5
  t9 := Try.underlying9
  a9 := Try.isAgg9
  z9 := Try.sizeOf9
  v9 := Try.zeroValue9
  t22 := Try.underlying50
  a22 := Try.isAgg50
  z22 := Try.sizeOf50
  v22 := Try.zeroValue50
  a24 := Try.isAgg3
  z24 := Try.sizeOf3
  t25 := Try.underlying92
  a25 := Try.isAgg92
  z25 := Try.sizeOf92
  v25 := Try.zeroValue92
  t39 := Try.underlying109
  a39 := Try.isAgg109
  z39 := Try.sizeOf109
  v39 := Try.zeroValue109
  t45 := Try.underlying121
  a45 := Try.isAgg121
  z45 := Try.sizeOf121
  v45 := Try.zeroValue121
  t46 := Try.underlying122
  a46 := Try.isAgg122
  z46 := Try.sizeOf122
  v46 := Try.zeroValue122
  t50 := Try.underlying64
  a50 := Try.isAgg64
  z50 := Try.sizeOf64
  v50 := Try.zeroValue64
  t53 := Try.underlying128
  a53 := Try.isAgg128
  z53 := Try.sizeOf128
  v53 := Try.zeroValue128
  t55 := Try.underlying130
  a55 := Try.isAgg130
  z55 := Try.sizeOf130
  v55 := Try.zeroValue130
  t66 := Try.underlying137
  a66 := Try.isAgg137
  z66 := Try.sizeOf137
  v66 := Try.zeroValue137
  t70 := Try.underlying141
  a70 := Try.isAgg141
  z70 := Try.sizeOf141
  v70 := Try.zeroValue141
  t76 := Try.underlying145
  a76 := Try.isAgg145
  z76 := Try.sizeOf145
  v76 := Try.zeroValue145
  t77 := Try.underlying84
  a77 := Try.isAgg84
  z77 := Try.sizeOf84
  v77 := Try.zeroValue84 }
end Go.Proofs
namespace Go.Proofs.Ytmohgkoomnihfaa.Vc
open Go.RowKit Go.Proofs Go.Sort

set_option maxHeartbeats 1000000 in
theorem near_w (pb po b o n c i j : Nat) (x y : ByteArray) (w : World) (hp : w.cell? ⟨pb, po, none⟩ = some (.slice (some ⟨b, o, none⟩) n c)) (hi : i < n) (hj : j < n) (hx : w.cell? ⟨b, o + i * 4 + 1, none⟩ = some (.string x)) (hy : w.cell? ⟨b, o + j * 4 + 1, none⟩ = some (.string y)) :
    Calls Try.prog 46 #[.int .i64 i, .int .i64 j, .pointer (some ⟨pb, po, none⟩)] w fun e w' => e = .returned (.int .i64 (Lib.compareBytes x.data.toList y.data.toList)) ∧ ∃ q, w' = w.drewN q := by
  have mixed := mixed
  have hC := fun w => Try.strings_Compare x y w
  generalize Lib.compareBytes x.data.toList y.data.toList = r at hC ⊢
  have hi' : (i : Int) < (n : Int) := by omega
  have hj' : (j : Int) < (n : Int) := by omega
  go_enter Try.func46, Try.ntmps46
  go_wp2
  go_quiet (first | (go_at_call 47; exact Calls.quiet_of_same (hC _)))
  go_wp2
  go_ret
  exact ⟨rfl, _, rfl⟩

theorem add_zero0' (a : Addr) : a.add 0 = a := by
  unfold Addr.add
  rw [if_pos rfl]
theorem cb_bl : ∀ a b : Bs, Lib.compareBytes a b = if bl a b = true then -1 else if bl b a = true then 1 else 0
  | [], [] => rfl
  | [], _ :: _ => rfl
  | _ :: _, [] => rfl
  | a :: x, b :: y => by
    have ih := cb_bl x y
    show (if a < b then (-1 : Int) else if b < a then 1 else Lib.compareBytes x y) = _
    have e1 : bl (a :: x) (b :: y) = (decide (a < b) || (a == b && bl x y)) := rfl
    have e2 : bl (b :: y) (a :: x) = (decide (b < a) || (b == a && bl y x)) := rfl
    rw [e1, e2, ih]
    by_cases h1 : a < b
    · simp [h1]
    · by_cases h2 : b < a
      · have hne : a ≠ b := fun e => h1 (by rw [e] at h2 ⊢; exact h2)
        have hne' : b ≠ a := fun e => hne e.symm
        simp [h1, h2, hne]
      · have hab : a = b := by
          rw [UInt8.lt_iff_toNat_lt] at h1 h2
          exact UInt8.toNat_inj.1 (by omega)
        subst hab
        simp [h1]
theorem node_word {w : World} {F : Nat → Prop} {n : Ln × Int} {cs : List Value} (h : RV w F (.pair tLn tI) n cs) : ∃ s : ByteArray, cs[1]? = some (.string s) ∧ s.data.toList = n.1.2.1 := by
  obtain ⟨c1, c2, rfl, ⟨d1, d2, rfl, h1, e1, e2, rfl, ⟨s, rfl, hs⟩, _⟩, _⟩ := h
  have h1 : d1 = [Value.int .i64 n.1.1] := h1
  subst h1
  exact ⟨s, rfl, hs⟩

def wdN (l : List (Ln × Int)) (i : Int) : Bs := (atI (.pair tLn tI) l i).1.2.1
def cmpN (l : List (Ln × Int)) (i j : Int) : Int := Lib.compareBytes (wdN l i) (wdN l j)
theorem lt_cmpN (l : List (Ln × Int)) (i j : Int) : Go.Proofs.ltOf (cmpN l) i j = bl (wdN l i) (wdN l j) := by
  unfold Go.Proofs.ltOf cmpN
  rw [cb_bl]
  cases h : bl (wdN l i) (wdN l j) with
  | true => rfl
  | false => cases h2 : bl (wdN l j) (wdN l i) <;> rfl
theorem cmpN_swo (l : List (Ln × Int)) : SWO (Go.Proofs.ltOf (cmpN l)) := by
  refine ⟨fun x => by rw [lt_cmpN, bl_irr], fun x y z h1 h2 => ?_, fun x y z h1 h2 => ?_⟩
  · rw [lt_cmpN] at h1 h2 ⊢; exact bl_trans h1 h2
  · rw [lt_cmpN] at h1 h2 ⊢
    cases h : bl (wdN l x) (wdN l z) with
    | false => rfl
    | true =>
      rcases bl_tri (wdN l x) (wdN l y) with h3 | h3 | h3
      · rw [h1] at h3; cases h3
      · rw [h3] at h; rw [h2] at h; cases h
      · rcases bl_tri (wdN l y) (wdN l z) with h4 | h4 | h4
        · rw [h2] at h4; cases h4
        · rw [← h4, h1] at h; cases h
        · have h5 := bl_trans (bl_trans h4 h3) h
          have h6 := bl_irr (wdN l z)
          exact absurd (h5.symm.trans h6) (by decide)

theorem sortI_none (A : Option Addr) (c : Nat) (fv : Value) (w : World) : Calls Try.prog 45 #[.slice A 0 c, fv] w fun en w' => en = .returned (.tuple #[]) ∧ w' = w := by
  have hS := AnyF.slices_SortFunc_none (P := Try.prog) (ρ := Try.sortI_ren) { Try.sortI with } A c fv w
  change Calls Try.prog 45 _ _ _ at hS
  exact hS
theorem sortI_some {α : Type} [Inhabited α] (enc : α → Value) (h1 : Go.Proofs.OneCell enc) (cf : α → α → Int) (hO : SWO (Go.Proofs.ltOf cf)) (g : Nat) (eg : ∀ args w, (callFunc g args).run Try.prog w = .ok (.enter g args) w) (cb : Array Value) (blk cap : Nat) (d : Array α) (w : World) (hcmp : Go.Proofs.CmpLays1 Try.prog g cb enc cf blk 0 d.size w) (hH : Go.Sort.Holds enc w blk 0 d) (hblk : blk < w.heap.size) (hsz : d.size < 4611686018427387904) :
    Calls Try.prog 45 #[.slice (some ⟨blk, 0, none⟩) d.size cap, .func (.func g) #[] cb] w fun en w' => en = .returned (.tuple #[]) ∧ ∃ d' n os, PermIn 0 d.size d d' ∧ SortedIn (Go.Proofs.ltOf cf) 0 d.size d' ∧ w' = sortWorld enc w blk 0 n d' os := by
  have hS := Any.slices_SortFunc (P := Try.prog) (ρ := Try.sortI_ren) Try.sortI enc h1 cf hO g cb blk 0 cap d w eg hcmp hH hblk hsz
  change Calls Try.prog 45 _ _ _ at hS
  exact hS

/-- Places of nodes, by their words. -/
def sortN (l : List (Ln × Int)) (ks : List Int) : List Int := ks.mergeSort fun a b => !bl (wdN l b) (wdN l a)
noncomputable def F45rK46 (_ : Nat) (a0 : List Int) (l : List (Ln × Int)) : Option (List Int) :=

  if a0.length ≤ 1000000000 ∧ (∀ k ∈ a0, 0 ≤ k ∧ k < l.length) ∧ (∀ x ∈ a0, ∀ y ∈ a0, wdN l x = wdN l y → x = y) then some (sortN l a0) else none
theorem P45rK46 (N : Nat) (a0 : List Int) (l : List (Ln × Int)) : ∀ r, F45rK46 N a0 l = some r →
    SpecR Try.prog 45 3 tI a0 [.clo 46 [.ept [.val (.list (.pair tLn tI)) l]]] r (.tup []) := fun r h => by
  unfold F45rK46 at h
  split at h
  · rename_i hcond
    obtain ⟨hlen, hin, huq⟩ := hcond
    cases h
    have e : sortN l a0 = a0.mergeSort fun a b => !Go.Proofs.ltOf (cmpN l) b a := by
      unfold sortN
      congr 1
      funext a b
      rw [lt_cmpN]
    rw [e]
    refine SpecR_sortFnM (P := Try.prog) (f := 45) (e := 3) (t := tI) (xs := a0) (g := 46) rfl (cmpN l) (cmpN_swo l) (fun x hx y hy h1 h2 => ?_) (by omega) (enter_of (fn := Try.f45) rfl rfl rfl) (enter_of (fn := Try.f46) rfl rfl rfl) ?_ ?_ ?_
    · rw [lt_cmpN] at h1 h2
      rcases bl_tri (wdN l x) (wdN l y) with h3 | h3 | h3
      · rw [h1] at h3; cases h3
      · exact huq x hx y hy h3
      · rw [h2] at h3; cases h3
    · intro w F v hF hgl hv
      obtain ⟨us, hvf, hus, hcap⟩ := hv
      obtain ⟨u, hu0, _, a, us', hua, hFa, hrd, hl1, hin'⟩ := hcap 0 _ rfl
      obtain ⟨u', hu', hlist⟩ := hin' 0 _ rfl
      have hlist : RV w F (.list (.pair tLn tI)) l [u'] := hlist
      have husE : us = #[u] := by
        have h1 : us.size = 1 := hus
        refine Array.ext (by simp [h1]) fun i h2 h3 => ?_
        have : i = 0 := by omega
        subst this
        have := (Array.getElem?_eq_some_iff.1 hu0).2
        simpa using this
      refine ⟨us, hvf, fun W hs _ x hx y hy vx vy hvx hvy => ?_⟩
      have hvx' : vx = .int .i64 x := by
        have h1 : [vx] = [Value.int .i64 x] := hvx
        injection h1
      have hvy' : vy = .int .i64 y := by
        have h1 : [vy] = [Value.int .i64 y] := hvy
        injection h1
      subst hvx'; subst hvy'
      obtain ⟨x0, x1⟩ := hin x hx
      obtain ⟨y0, y1⟩ := hin y hy
      have hne : l ≠ [] := fun e => by rw [e] at x1; simp at x1; omega
      obtain ⟨b, o, c, zs, hslice, hc, hm, hz, hFb, hb, hcells⟩ := elts hlist hne
      have hzl : zs.length = l.length := by rw [← hz, List.length_map]
      have hpc := (hrd 0 u' hu').1
      have hsp := (cell_spotG hpc).1
      rw [add_zero0'] at hpc hsp
      have ha : a = ⟨a.block, a.off, none⟩ := by rw [← hsp]
      have hpW : W.cell? ⟨a.block, a.off, none⟩ = some (.slice (some ⟨b, o, none⟩) l.length c) := by
        refine (World.cell?_of_block (a := ⟨a.block, a.off, none⟩) (hs _ hFa)).trans ?_
        rw [← ha, hpc, hslice]
      have word : ∀ k : Nat, k < l.length → ∃ s : ByteArray, W.cell? ⟨b, o + k * 4 + 1, none⟩ = some (.string s) ∧ s.data.toList = wdN l (k : Int) := fun k hk => by
        have hzt : k < zs.length := by omega
        obtain ⟨s, g1, g2⟩ := node_word (zs[k]).2
        refine ⟨s, ?_, ?_⟩
        · exact (World.cell?_of_block (a := ⟨b, o + k * 4 + 1, none⟩) (hs _ hFb)).trans (hcells k hzt 1 _ g1)
        · rw [g2]
          unfold wdN atI
          have : (zs.map (fun z => z.1.2))[k]? = some (zs[k]).1.2 := by rw [List.getElem?_map, List.getElem?_eq_getElem hzt]; rfl
          rw [hz] at this
          rw [List.getD_eq_getElem?_getD, Int.toNat_natCast, this]; rfl
      obtain ⟨i, rfl⟩ := Int.eq_ofNat_of_zero_le x0
      obtain ⟨j, rfl⟩ := Int.eq_ofNat_of_zero_le y0
      obtain ⟨s1, a1, a2⟩ := word i (by omega)
      obtain ⟨s2, b1, b2⟩ := word j (by omega)
      have hC := near_w a.block a.off b o l.length c i j s1 s2 W hpW (by omega) (by omega) a1 b1
      rw [husE, hua, ha]
      refine hC.mono ?_
      rintro en w' ⟨rfl, q, rfl⟩
      exact ⟨by rw [a2, b2]; rfl, q, #[], by rw [grow_empty]⟩
    · exact fun A c fv w => sortI_none A c fv w
    · exact fun enc h1 cf hO cb blk cap d w hc hH hblk hsz => sortI_some enc h1 cf hO 46 (enter_of (fn := Try.f46) rfl rfl rfl) cb blk cap d w hc hH hblk hsz
  · cases h

end Go.Proofs.Ytmohgkoomnihfaa.Vc
