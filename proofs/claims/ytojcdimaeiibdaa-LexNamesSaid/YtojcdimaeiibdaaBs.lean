/-
  FUNCTIONS OF PACKAGE strings: from the shelf's contracts to what they do with data. No condition.
-/
import Derived.Test.YtojcdimaeiibdaaVp
import Derived.Test.YtojcdimaeiibdaaSh
set_option linter.unusedVariables false
set_option linter.unusedSimpArgs false
namespace Go.Proofs.Ytojcdimaeiibdaa.Vc
open Go.RowKit Go.Proofs

theorem Spec_quiet {P : Program} {f : FuncId} {ds : List D} {u : Ty} {x : u.I} (hent : ∀ (args : Array Value) (w : World), (callFunc f args).run P w = .ok (.enter f args) w)
    (h : ∀ (w : World) (vs : Array Value) (F : Nat → Prop), (∀ g, F g → g < w.heap.size) → Glb P w F → vs.size = ds.length → (∀ (i : Nat) d', ds[i]? = some d' → ∃ v, vs[i]? = some v ∧ R1 w F noM v d') →
      ∃ v, (∀ F2, R1 w F2 noM v (encV u x)) ∧ Calls P f vs w fun e w' => e = .returned v ∧ w' = w) : Spec P f ds (encV u x) := by
  refine ⟨hent, fun w vs F hF hgl hsz hargs => ?_⟩
  obtain ⟨v, hv, hc⟩ := h w vs F hF hgl hsz hargs
  refine hc.mono ?_
  rintro e w' ⟨rfl, rfl⟩
  exact ⟨v, F, none, rfl, Below.refl _ _, fun _ z => z, fun g hg => ⟨hF g hg, .inl hg⟩, fun g hg => (by cases hg), RR0.toRR (encV_RR0' ⟨u, x, rfl⟩ (hv F))⟩

theorem vs_two {vs : Array Value} (h : vs.size = 2) : ∃ a b, vs = #[a, b] := by
  obtain ⟨l⟩ := vs
  match l, h with
  | [a, b], _ => exact ⟨a, b, rfl⟩

theorem arg_str {w : World} {F : Nat → Prop} {v : Value} {s : Bs} (h : R1 w F noM v (.val .str s)) : ∃ S : ByteArray, v = .string S ∧ S.data.toList = s := by
  obtain ⟨S, h1, h2⟩ := h
  exact ⟨S, by simpa using h1, h2⟩
theorem arg_int {w : World} {F : Nat → Prop} {v : Value} {k : IntKind} {n : Int} (h : R1 w F noM v (.val (.int k) n)) : v = .int k n := by
  have h : [v] = [Value.int k n] := h
  simpa using h

theorem two_args {w : World} {F : Nat → Prop} {vs : Array Value} {d1 d2 : D} (hsz : vs.size = 2) (h : ∀ (i : Nat) d', [d1, d2][i]? = some d' → ∃ v, vs[i]? = some v ∧ R1 w F noM v d') : ∃ a b, vs = #[a, b] ∧ R1 w F noM a d1 ∧ R1 w F noM b d2 := by
  obtain ⟨a, b, rfl⟩ := vs_two hsz
  obtain ⟨x, h1, h2⟩ := h 0 d1 rfl
  obtain ⟨y, h3, h4⟩ := h 1 d2 rfl
  have : a = x := by simpa using h1
  subst this
  have : b = y := by simpa using h3
  subst this
  exact ⟨a, b, rfl, h2, h4⟩

/-! strings.IndexByte -/
def E41 : Int → D := fun x => encV tI x
def F41 (N : Nat) (s : Bs) (c : Int) : Option Int := some (Lib.indexByte s c.toNat.toUInt8)
theorem P41 (N : Nat) (s : Bs) (c : Int) : ∀ r, F41 N s c = some r → Spec Try.prog 41 [.val .str s, .val (.int .u8) c] (E41 r) := fun r h => by
  cases h
  refine Spec_quiet (enter_of (fn := Try.f41) rfl rfl rfl) fun w vs F hF hgl hsz hargs => ?_
  obtain ⟨a, b, rfl, h1, h2⟩ := two_args hsz hargs
  obtain ⟨S, rfl, rfl⟩ := arg_str h1
  obtain rfl := arg_int h2
  exact ⟨_, fun _ => rfl, Try.strings_IndexByte S c w⟩

/-! strings.Index -/
def E38 : Int → D := fun x => encV tI x
def F38 (N : Nat) (s p : Bs) : Option Int := if s.length < 4294967281 then some (Lib.index s p) else none
theorem P38 (N : Nat) (s p : Bs) : ∀ r, F38 N s p = some r → Spec Try.prog 38 [.val .str s, .val .str p] (E38 r) := fun r h => by
  unfold F38 at h
  split at h
  · rename_i hl
    cases h
    refine Spec_quiet (enter_of (fn := Try.f38) rfl rfl rfl) fun w vs F hF hgl hsz hargs => ?_
    obtain ⟨a, b, rfl, h1, h2⟩ := two_args hsz hargs
    obtain ⟨S, rfl, rfl⟩ := arg_str h1
    obtain ⟨Q, rfl, rfl⟩ := arg_str h2
    obtain ⟨_, m, hm⟩ := hgl 0 (by kernel_rfl)
    exact ⟨_, fun _ => rfl, Try.strings_Index S Q m w (by rw [strSize]; exact hl) hm⟩
  · cases h

/-! strings.HasPrefix -/
def E40 : Bool → D := fun x => encV tB x
def F40 (N : Nat) (s p : Bs) : Option Bool := some (Lib.hasPrefix s p)
theorem P40 (N : Nat) (s p : Bs) : ∀ r, F40 N s p = some r → Spec Try.prog 40 [.val .str s, .val .str p] (E40 r) := fun r h => by
  cases h
  refine Spec_quiet (enter_of (fn := Try.f40) rfl rfl rfl) fun w vs F hF hgl hsz hargs => ?_
  obtain ⟨a, b, rfl, h1, h2⟩ := two_args hsz hargs
  obtain ⟨S, rfl, rfl⟩ := arg_str h1
  obtain ⟨Q, rfl, rfl⟩ := arg_str h2
  exact ⟨_, fun _ => rfl, Try.strings_HasPrefix S Q w⟩

/-! strings.Count, of one byte -/
def E25 : Int → D := fun x => encV tI x
def F25 (N : Nat) (s p : Bs) : Option Int := match p with
  | [c] => some (Lib.countByte s c)
  | _ => none
theorem P25 (N : Nat) (s p : Bs) : ∀ r, F25 N s p = some r → Spec Try.prog 25 [.val .str s, .val .str p] (E25 r) := fun r h => by
  unfold F25 at h
  split at h
  · rename_i c
    cases h
    refine Spec_quiet (enter_of (fn := Try.f25) rfl rfl rfl) fun w vs F hF hgl hsz hargs => ?_
    obtain ⟨a, b, rfl, h1, h2⟩ := two_args hsz hargs
    obtain ⟨S, rfl, rfl⟩ := arg_str h1
    obtain ⟨Q, rfl, hq⟩ := arg_str h2
    have : Q = ⟨#[c]⟩ := by
      cases Q
      congr 1
      exact Array.toList_inj.1 hq
    subst this
    exact ⟨_, fun _ => rfl, Try.strings_Count_one S c w⟩
  · cases h

/-! strings.LastIndexByte -/
def E26 : Int → D := fun x => encV tI x
def F26 (N : Nat) (s : Bs) (c : Int) : Option Int := if s.length < 4611686018427387904 then some (Lib.lastIndexByte ⟨s.toArray⟩ c) else none
theorem P26 (N : Nat) (s : Bs) (c : Int) : ∀ r, F26 N s c = some r → Spec Try.prog 26 [.val .str s, .val (.int .u8) c] (E26 r) := fun r h => by
  unfold F26 at h
  split at h
  · rename_i hl
    cases h
    refine Spec_quiet (enter_of (fn := Try.f26) rfl rfl rfl) fun w vs F hF hgl hsz hargs => ?_
    obtain ⟨a, b, rfl, h1, h2⟩ := two_args hsz hargs
    obtain ⟨S, rfl, hS⟩ := arg_str h1
    obtain rfl := arg_int h2
    have : S = ⟨s.toArray⟩ := by
      cases S
      congr 1
      apply Array.toList_inj.1
      simpa using hS
    subst this
    exact ⟨_, fun _ => rfl, Try.strings_LastIndexByte _ c (by rw [strSize]; simpa using hl) w⟩
  · cases h

end Go.Proofs.Ytojcdimaeiibdaa.Vc
