/-
  FUNCTIONS OF PACKAGE strings: from the shelf's contracts to what they do with data. No condition.
  strconv.Itoa: from the shelf's contract to what it does with data. No condition.
-/
import Derived.Test.YtmohgkoomnihfaaVp
import Derived.Test.YtmohgkoomnihfaaSh
set_option linter.unusedVariables false
set_option linter.unusedSimpArgs false
set_option maxRecDepth 100000
namespace Go.Proofs.Ytmohgkoomnihfaa.Vc

section
open Go.RowKit Go.Proofs

theorem Spec_quiet {P : Program} {f : FuncId} {ds : List D} {u : Ty} {x : u.I} (hent : ∀ (args : Array Value) (w : World), (callFunc f args).run P w = .ok (.enter f args) w)
    (h : ∀ (w : World) (vs : Array Value) (F : Nat → Prop), (∀ g, F g → g < w.heap.size) → Glb P w F → vs.size = ds.length → (∀ (i : Nat) d', ds[i]? = some d' → ∃ v, vs[i]? = some v ∧ R1 w F noM v d') →
      ∃ v, (∀ F2, R1 w F2 noM v (encV u x)) ∧ Calls P f vs w fun e w' => e = .returned v ∧ w' = w) : Spec P f ds (encV u x) := by
  refine ⟨hent, fun w vs F hF hgl hsz hargs => ?_⟩
  obtain ⟨v, hv, hc⟩ := h w vs F hF hgl hsz hargs
  refine hc.mono ?_
  rintro e w' ⟨rfl, rfl⟩
  exact ⟨v, F, none, rfl, Below.refl _ _, fun _ z => z, fun g hg => ⟨hF g hg, .inl hg⟩, fun g hg => (by cases hg), RR0.toRR (encV_RR0' ⟨u, x, rfl⟩ (hv F))⟩

theorem vs_two {vs : Array Value} (h : vs.size = 2) : ∃ a b, vs = #[a, b] := by
  obtain ⟨l⟩ := vs
  match l, h with
  | [a, b], _ => exact ⟨a, b, rfl⟩

theorem arg_str {w : World} {F : Nat → Prop} {v : Value} {s : Bs} (h : R1 w F noM v (.val .str s)) : ∃ S : ByteArray, v = .string S ∧ S.data.toList = s := by
  obtain ⟨S, h1, h2⟩ := h
  exact ⟨S, by simpa using h1, h2⟩
theorem arg_int {w : World} {F : Nat → Prop} {v : Value} {k : IntKind} {n : Int} (h : R1 w F noM v (.val (.int k) n)) : v = .int k n := by
  have h : [v] = [Value.int k n] := h
  simpa using h

theorem two_args {w : World} {F : Nat → Prop} {vs : Array Value} {d1 d2 : D} (hsz : vs.size = 2) (h : ∀ (i : Nat) d', [d1, d2][i]? = some d' → ∃ v, vs[i]? = some v ∧ R1 w F noM v d') : ∃ a b, vs = #[a, b] ∧ R1 w F noM a d1 ∧ R1 w F noM b d2 := by
  obtain ⟨a, b, rfl⟩ := vs_two hsz
  obtain ⟨x, h1, h2⟩ := h 0 d1 rfl
  obtain ⟨y, h3, h4⟩ := h 1 d2 rfl
  have : a = x := by simpa using h1
  subst this
  have : b = y := by simpa using h3
  subst this
  exact ⟨a, b, rfl, h2, h4⟩

/-! strings.IndexByte -/
def E79 : Int → D := fun x => encV tI x
def F79 (N : Nat) (s : Bs) (c : Int) : Option Int := some (Lib.indexByte s c.toNat.toUInt8)
theorem P79 (N : Nat) (s : Bs) (c : Int) : ∀ r, F79 N s c = some r → Spec Try.prog 79 [.val .str s, .val (.int .u8) c] (E79 r) := fun r h => by
  cases h
  refine Spec_quiet (enter_of (fn := Try.f79) rfl rfl rfl) fun w vs F hF hgl hsz hargs => ?_
  obtain ⟨a, b, rfl, h1, h2⟩ := two_args hsz hargs
  obtain ⟨S, rfl, rfl⟩ := arg_str h1
  obtain rfl := arg_int h2
  exact ⟨_, fun _ => rfl, Try.strings_IndexByte S c w⟩

/-! strings.Index -/
def E80 : Int → D := fun x => encV tI x
def F80 (N : Nat) (s p : Bs) : Option Int := if s.length < 4294967281 then some (Lib.index s p) else none
theorem P80 (N : Nat) (s p : Bs) : ∀ r, F80 N s p = some r → Spec Try.prog 80 [.val .str s, .val .str p] (E80 r) := fun r h => by
  unfold F80 at h
  split at h
  · rename_i hl
    cases h
    refine Spec_quiet (enter_of (fn := Try.f80) rfl rfl rfl) fun w vs F hF hgl hsz hargs => ?_
    obtain ⟨a, b, rfl, h1, h2⟩ := two_args hsz hargs
    obtain ⟨S, rfl, rfl⟩ := arg_str h1
    obtain ⟨Q, rfl, rfl⟩ := arg_str h2
    obtain ⟨_, m, hm⟩ := hgl.int (g := 0) (by kernel_rfl)
    exact ⟨_, fun _ => rfl, Try.strings_Index S Q m w (by rw [strSize]; exact hl) hm⟩
  · cases h

/-! strings.HasPrefix -/
def E76 : Bool → D := fun x => encV tB x
def F76 (N : Nat) (s p : Bs) : Option Bool := some (Lib.hasPrefix s p)
theorem P76 (N : Nat) (s p : Bs) : ∀ r, F76 N s p = some r → Spec Try.prog 76 [.val .str s, .val .str p] (E76 r) := fun r h => by
  cases h
  refine Spec_quiet (enter_of (fn := Try.f76) rfl rfl rfl) fun w vs F hF hgl hsz hargs => ?_
  obtain ⟨a, b, rfl, h1, h2⟩ := two_args hsz hargs
  obtain ⟨S, rfl, rfl⟩ := arg_str h1
  obtain ⟨Q, rfl, rfl⟩ := arg_str h2
  exact ⟨_, fun _ => rfl, Try.strings_HasPrefix S Q w⟩

/-! strings.Count, of one byte -/
/-! strings.LastIndexByte -/
end

section
open Go.RowKit Go.Proofs Go.Sort

end

end Go.Proofs.Ytmohgkoomnihfaa.Vc
