/-
  FUNCTIONS OF PACKAGE strings: from the shelf's contracts to what they do with data. No condition.
  strconv.Itoa: from the shelf's contract to what it does with data. No condition.
-/
import Derived.Test.YtncgafojgdemdaaDoorVp
import Derived.Test.YtncgafojgdemdaaDoorSh
set_option linter.unusedVariables false
set_option linter.unusedSimpArgs false
set_option maxRecDepth 100000
namespace Go.Proofs.YtncgafojgdemdaaDoor.Vc

section
open Go.RowKit Go.Proofs

theorem Spec_quiet {P : Program} {f : FuncId} {ds : List D} {u : Ty} {x : u.I} (hent : ∀ (args : Array Value) (w : World), (callFunc f args).run P w = .ok (.enter f args) w)
    (h : ∀ (w : World) (vs : Array Value) (F : Nat → Prop), (∀ g, F g → g < w.heap.size) → Glb P w F → vs.size = ds.length → (∀ (i : Nat) d', ds[i]? = some d' → ∃ v, vs[i]? = some v ∧ R1 w F noM v d') →
      ∃ v, (∀ F2, R1 w F2 noM v (encV u x)) ∧ Calls P f vs w fun e w' => e = .returned v ∧ w' = w) : Spec P f ds (encV u x) := by
  refine ⟨hent, fun w vs F hF hgl hsz hargs => ?_⟩
  obtain ⟨v, hv, hc⟩ := h w vs F hF hgl hsz hargs
  refine hc.mono ?_
  rintro e w' ⟨rfl, rfl⟩
  exact ⟨v, F, none, rfl, Below.refl _ _, fun _ z => z, fun g hg => ⟨hF g hg, .inl hg⟩, fun g hg => (by cases hg), RR0.toRR (encV_RR0' ⟨u, x, rfl⟩ (hv F))⟩

theorem vs_two {vs : Array Value} (h : vs.size = 2) : ∃ a b, vs = #[a, b] := by
  obtain ⟨l⟩ := vs
  match l, h with
  | [a, b], _ => exact ⟨a, b, rfl⟩

theorem arg_str {w : World} {F : Nat → Prop} {v : Value} {s : Bs} (h : R1 w F noM v (.val .str s)) : ∃ S : ByteArray, v = .string S ∧ S.data.toList = s := by
  obtain ⟨S, h1, h2⟩ := h
  exact ⟨S, by simpa using h1, h2⟩
theorem arg_int {w : World} {F : Nat → Prop} {v : Value} {k : IntKind} {n : Int} (h : R1 w F noM v (.val (.int k) n)) : v = .int k n := by
  have h : [v] = [Value.int k n] := h
  simpa using h

theorem two_args {w : World} {F : Nat → Prop} {vs : Array Value} {d1 d2 : D} (hsz : vs.size = 2) (h : ∀ (i : Nat) d', [d1, d2][i]? = some d' → ∃ v, vs[i]? = some v ∧ R1 w F noM v d') : ∃ a b, vs = #[a, b] ∧ R1 w F noM a d1 ∧ R1 w F noM b d2 := by
  obtain ⟨a, b, rfl⟩ := vs_two hsz
  obtain ⟨x, h1, h2⟩ := h 0 d1 rfl
  obtain ⟨y, h3, h4⟩ := h 1 d2 rfl
  have : a = x := by simpa using h1
  subst this
  have : b = y := by simpa using h3
  subst this
  exact ⟨a, b, rfl, h2, h4⟩

/-! strings.IndexByte -/
def E71 : Int → D := fun x => encV tI x
def F71 (N : Nat) (s : Bs) (c : Int) : Option Int := some (Lib.indexByte s c.toNat.toUInt8)
theorem P71 (N : Nat) (s : Bs) (c : Int) : ∀ r, F71 N s c = some r → Spec Tryd.prog 71 [.val .str s, .val (.int .u8) c] (E71 r) := fun r h => by
  cases h
  refine Spec_quiet (enter_of (fn := Tryd.f71) rfl rfl rfl) fun w vs F hF hgl hsz hargs => ?_
  obtain ⟨a, b, rfl, h1, h2⟩ := two_args hsz hargs
  obtain ⟨S, rfl, rfl⟩ := arg_str h1
  obtain rfl := arg_int h2
  exact ⟨_, fun _ => rfl, Tryd.strings_IndexByte S c w⟩

/-! strings.Index -/
/-! strings.HasPrefix -/
def E63 : Bool → D := fun x => encV tB x
def F63 (N : Nat) (s p : Bs) : Option Bool := some (Lib.hasPrefix s p)
theorem P63 (N : Nat) (s p : Bs) : ∀ r, F63 N s p = some r → Spec Tryd.prog 63 [.val .str s, .val .str p] (E63 r) := fun r h => by
  cases h
  refine Spec_quiet (enter_of (fn := Tryd.f63) rfl rfl rfl) fun w vs F hF hgl hsz hargs => ?_
  obtain ⟨a, b, rfl, h1, h2⟩ := two_args hsz hargs
  obtain ⟨S, rfl, rfl⟩ := arg_str h1
  obtain ⟨Q, rfl, rfl⟩ := arg_str h2
  exact ⟨_, fun _ => rfl, Tryd.strings_HasPrefix S Q w⟩

/-! strings.Count, of one byte -/
/-! strings.LastIndexByte -/
end

section
open Go.RowKit Go.Proofs Go.Sort

def E32 : Bs → D := fun x => encV tS x
def F32 (N : Nat) (n : Int) : Option Bs := if -9223372036854775808 ≤ n ∧ n ≤ 9223372036854775807 then some (Lib.itoa n) else none
theorem P32 (N : Nat) (n : Int) : ∀ r, F32 N n = some r → Spec Tryd.prog 32 [.val (.int .i64) n] (E32 r) := fun r h => by
  unfold F32 at h
  split at h
  · rename_i hn
    cases h
    refine ⟨enter_of (fn := Tryd.f32) rfl rfl rfl, fun w vs F hF hgl hsz hargs => ?_⟩
    obtain ⟨v, rfl⟩ : ∃ v, vs = #[v] := by
      have h1 : vs.size = 1 := by simpa using hsz
      refine ⟨vs[0], Array.ext (by simp [h1]) fun i h2 h3 => ?_⟩
      have : i = 0 := by omega
      subst this; rfl
    obtain ⟨v', hv1, hv2⟩ := hargs 0 _ rfl
    have hv3 : v' = v := by simpa using hv1.symm
    subst hv3
    have := arg_int hv2
    subst this
    obtain ⟨g, hg1, hg2⟩ : ∃ g, Tryd.prog.globalNamed "internal/strconv.uint64pow10" = some g ∧ tabVar Tryd.prog g = some Lib.pow10Tab := ⟨0, by kernel_rfl, by kernel_rfl⟩
    obtain ⟨_, e, fr, hh⟩ := hgl.tab hg2
    have htab : Lib.TabIs Tryd.prog w "internal/strconv.uint64pow10" .u64 Lib.pow10Tab := by
      unfold Lib.TabIs World.var?
      rw [hg1]
      simp only [Option.bind_some, hh]
    have hC := Tryd.strconv_Itoa n hn.1 hn.2 w htab
    refine Calls.mono hC ?_
    rintro en w' ⟨rfl, k, os, rfl⟩
    have hb : Below w.heap.size w (grow (w.drewN k) os) := ⟨rfl, rfl, rfl, by rw [size_grow]; simp, fun j hj => by rw [heap_grow_old _ _ (by simpa using hj)]; rfl⟩
    exact ⟨_, F, none, rfl, hb, fun _ h => h, fun g hg => ⟨Nat.lt_of_lt_of_le (hF g hg) hb.size, .inl hg⟩, fun g hg => (by cases hg), ⟨_, rfl, by simp⟩⟩
  · cases h
end

end Go.Proofs.YtncgafojgdemdaaDoor.Vc
