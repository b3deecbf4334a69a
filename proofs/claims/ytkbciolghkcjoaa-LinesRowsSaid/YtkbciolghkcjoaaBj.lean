/-
  strings.Join: from the shelf's contract to what it does with data. No condition.
-/
import Derived.Test.YtkbciolghkcjoaaBs
set_option linter.unusedVariables false
set_option linter.unusedSimpArgs false
namespace Go.Proofs.Ytkbciolghkcjoaa.Vc
open Go.RowKit Go.Proofs

theorem cell_spotJ {w : World} {a : Addr} {v : Value} (h : w.cell? a = some v) : a.spot = none ∧ a.block < w.heap.size := by
  unfold World.cell? at h
  split at h
  · rename_i c e fr hb
    split at h
    · cases h
    · rename_i h2
      refine ⟨?_, (Array.getElem?_eq_some_iff.1 hb).1⟩
      cases hq : a.spot with
      | none => rfl
      | some q => rw [hq] at h2; exact absurd rfl h2
  · cases h
/-- Texts behind a slice's value. -/
theorem txtJ {w : World} {F : Nat → Prop} {x : List Bs} {v : Value} (h : RV w F (.list .str) x [v]) : (x = [] ∧ ∃ A c, v = .slice A 0 c) ∨
    ∃ (b o c : Nat) (xs : List ByteArray), v = .slice (some ⟨b, o, none⟩) xs.length c ∧ xs.map (fun s : ByteArray => s.data.toList) = x ∧ xs.length ≤ c ∧ b < w.heap.size ∧ ∀ (j : Nat) y, xs[j]? = some y → w.cell? ⟨b, o + j, none⟩ = some (.string y) := by
  obtain ⟨A, c, h1, h2, h3, h4⟩ := h
  have hv : v = .slice A x.length c := by simpa using h1
  rcases Nat.eq_zero_or_pos x.length with h0 | h0
  · exact .inl ⟨List.length_eq_zero_iff.1 h0, A, c, by rw [hv, h0]⟩
  · right
    obtain ⟨a0, us0, ha0, _, hu0, hr0⟩ := h4 0 x[0] (List.getElem?_eq_getElem h0)
    obtain ⟨hsp, hbk⟩ : a0.spot = none ∧ a0.block < w.heap.size := by
      obtain ⟨s0, hs0, _⟩ := hu0
      subst hs0
      have := (hr0 0 (.string s0) rfl).1
      rw [Nat.zero_mul] at this
      exact cell_spotJ this
    have hl : (x.map fun b => (⟨b.toArray⟩ : ByteArray)).length = x.length := by simp
    refine ⟨a0.block, a0.off, c, x.map fun b => ⟨b.toArray⟩, by rw [hv, ha0, hl, ← hsp], by simp [Function.comp_def], by rw [hl]; exact h2, hbk, fun j y hy => ?_⟩
    have hj : j < x.length := by
      have := (List.getElem?_eq_some_iff.1 hy).1
      rwa [hl] at this
    obtain ⟨a, us, ha, _, hu, hr⟩ := h4 j x[j] (List.getElem?_eq_getElem hj)
    have ea : a = a0 := by rw [ha] at ha0; injection ha0
    subst ea
    obtain ⟨s, hs1, hs2⟩ := hu
    subst hs1
    have hr1 := (hr 0 (.string s) rfl).1
    have hw : (Ty.width .str) = 1 := rfl
    rw [hw, Nat.mul_one] at hr1
    have hadd : (a.add j).add 0 = ⟨a.block, a.off + j, none⟩ := by
      show a.add j = _
      unfold Addr.add
      split
      · rename_i h; subst h; rw [← hsp]
        rfl
      · rfl
    rw [hadd] at hr1
    rw [hr1]
    rw [List.getElem?_map, List.getElem?_eq_getElem hj] at hy
    injection hy with hy
    rw [← hy]
    congr 1
    congr 1
    rw [← hs2]

def E53 : Bs → D := fun x => encV tS x
def F53 (N : Nat) (xs : List Bs) (sep : Bs) : Option Bs := if xs.length ≤ 1000000 ∧ (Lib.join xs sep).length ≤ 100000000 then some (Lib.join xs sep) else none
theorem P53 (N : Nat) (xs : List Bs) (sep : Bs) : ∀ r, F53 N xs sep = some r → Spec Try.prog 53 [.val (.list tS) xs, .val tS sep] (E53 r) := fun r h => by
  unfold F53 at h
  split at h
  · rename_i hc
    cases h
    refine ⟨enter_of (fn := Try.f53) rfl rfl rfl, fun w vs F hF hgl hsz hargs => ?_⟩
    obtain ⟨v, s, rfl, hv, hs⟩ := two_args (hsz := by simpa using hsz) hargs
    obtain ⟨S, rfl, hS⟩ := arg_str hs
    have fin : ∀ w', Below w.heap.size w w' → ∃ v F' G, (Ending.returned (Value.string ⟨(Lib.join xs sep).toArray⟩) : Ending) = .returned v ∧ Below w.heap.size w w' ∧ (∀ g, F g → F' g) ∧ (∀ g, F' g → g < w'.heap.size ∧ (F g ∨ w.heap.size ≤ g)) ∧
      (∀ g, G = some g → w.heap.size ≤ g ∧ ¬F' g ∧ g < w'.heap.size) ∧ RR w' F' (fun g => w.heap.size ≤ g) G v (E53 (Lib.join xs sep)) := fun w' hb =>
      ⟨_, F, none, rfl, hb, fun _ h => h, fun g hg => ⟨Nat.lt_of_lt_of_le (hF g hg) hb.size, .inl hg⟩, fun g hg => (by cases hg), ⟨_, rfl, by simp⟩⟩
    rcases txtJ hv with ⟨hx, A, c, rfl⟩ | ⟨b, o, c, ys, rfl, hys, hcap, hbk, hcells⟩
    · subst hx
      refine Calls.mono (Try.strings_Join_none A c S w) ?_
      rintro en w' ⟨rfl, rfl⟩
      exact fin _ ⟨rfl, rfl, rfl, Nat.le_refl _, fun _ _ => rfl⟩
    · have hC := Try.strings_Join b o c ys S w hcells hbk (by have := congrArg List.length hys; simp at this; omega) hcap (by rw [hys, hS]; omega)
      rw [hys, hS] at hC
      refine Calls.mono hC ?_
      rintro en w' ⟨rfl, hb⟩
      exact fin _ hb
  · cases h

end Go.Proofs.Ytkbciolghkcjoaa.Vc
