/-
  slices.Compact, slices.DeleteFunc at entries; slices.Sort, slices.Compact at texts; strings.Compare: what they do with data. No condition.
-/
import Derived.Test.YtnkinnhgahpcoaaAd
set_option linter.unusedVariables false
set_option linter.unusedSimpArgs false
set_option maxRecDepth 100000
namespace Go.Proofs.Ytnkinnhgahpcoaa.Vc
open Go.RowKit Go.Proofs Go.Lib Go.Sort

theorem Glb.same {P : Program} {w w' : World} {F : Nat → Prop} (h : Glb P w F) (hs : Same F w w') : Glb P w' F := fun g hg => ⟨(h g hg).1, (h g hg).2.of_block (hs g (h g hg).1)⟩

/-- A row of the caller's own, as a row of entries. -/
theorem rowE_own {w : World} {F : Nat → Prop} {b cap : Nat} {us : Array Value} {xs : List En} (hh : w.heap[b]? = some (.cells us 44 (0, 0))) (hus : us.size = cap * tEn.width) (hH : Holds w F tEn xs us.toList) : RowE w b cap xs.length (fun i => xs[i]!) w :=
  ⟨⟨rfl, rfl, rfl, Nat.le_refl _, fun _ _ _ => rfl⟩, us, hh, hus, fun i hi c v hc => by
    simp only [getElem!_pos xs i hi] at hc
    exact holds_en hH i hi c v hc⟩
theorem own_rowE {w w' : World} {F : Nat → Prop} {B : Nat → Prop} {b cap : Nat} {xs : List En} (hB : B b) (h : RowE w b cap xs.length (fun i => xs[i]!) w') (hle : xs.length ≤ cap) (hcap : cap ≤ maxLen) :
    OwnR w' F B (some b) (.slice (some ⟨b, 0, none⟩) xs.length cap) 44 tEn xs := by
  obtain ⟨us, h1, h2, h3⟩ := h.row
  exact .inr ⟨b, cap, us, rfl, hB, rfl, h1, hle, hcap, h2, holds_of_en fun i hi c v hc => h3 i hi c v (by rw [getElem!_pos xs i hi]; exact hc)⟩

theorem ddA_len (l : List En) : (ddA l).length ≤ l.length := by
  suffices h : ∀ (l acc : List En), (l.foldl ddS acc).length ≤ acc.length + l.length by unfold ddA; simpa using h l []
  intro l
  induction l with
  | nil => intro acc; simp
  | cons x l ih =>
    intro acc
    rw [List.foldl_cons]
    refine Nat.le_trans (ih _) ?_
    unfold ddS
    split <;> simp <;> omega

/-! ### slices.Compact -/

theorem cmpt_none (A : Option Addr) (c : Nat) (w : World) : Calls Try.prog 40 #[.slice A 0 c] w fun en w' => en = .returned (.slice A 0 c) ∧ w' = w := by
  have mixed := mixed
  go_enter Try.func40, Try.ntmps40
  go_wp2
  go_ret
  exact ⟨rfl, rfl⟩
def E40t : List En → D := fun x => .own 44 tEn x
def F40t (_ : Nat) (a0 : List En) : Option (List En) := some (ddA a0)
theorem P40t (N : Nat) (xs : List En) : ∀ r, F40t N xs = some r →
    SpecT Try.prog 40 44 tEn xs [] (E40t r) := fun r h => by
  cases h
  refine ⟨enter_of (fn := Try.f40) rfl rfl rfl, fun w v0 vs F G0 hF hgl hown hsz hargs => ?_⟩
  have hv : vs = #[] := Array.size_eq_zero_iff.1 hsz
  subst hv
  rcases hown with ⟨hx, hG, A, rfl⟩ | ⟨b, cap, us, hG, hB, rfl, hh, hle, hcap, hus, hH⟩
  · subst hx
    refine (cmpt_none A 0 w).mono ?_
    rintro en w' ⟨rfl, rfl⟩
    exact ⟨_, F, none, rfl, by rw [hG]; exact ⟨rfl, rfl, rfl, Nat.le_refl _, fun _ _ _ => rfl⟩, fun _ h => h, fun k hk => ⟨hF k hk, .inl hk⟩, fun k hk => (by cases hk), .inl ⟨rfl, rfl, A, rfl⟩⟩
  · have hlt : b < w.heap.size := (Array.getElem?_eq_some_iff.1 hh).1
    refine (cmpt_w b cap xs w hlt hle hcap (rowE_own hh hus hH)).mono ?_
    rintro en w' ⟨rfl, hR⟩
    exact ⟨_, F, some b, rfl, by rw [hG]; exact hR.gr, fun _ h => h, fun k hk => ⟨Nat.lt_of_lt_of_le (hF k hk) hR.gr.size, .inl hk⟩, fun g hg => by cases hg; exact ⟨.inr hG, hB.2, Nat.lt_of_lt_of_le hlt hR.gr.size⟩,
      own_rowE trivial hR (Nat.le_trans (ddA_len xs) hle) hcap⟩

/-! ### slices.DeleteFunc -/

theorem idx_none (A : Option Addr) (c : Nat) (fv : Value) (w : World) : Calls Try.prog 44 #[.slice A 0 c, fv] w fun en w' => en = .returned (.int .i64 (-1)) ∧ w' = w := by
  have mixed := mixed
  go_enter Try.func44, Try.ntmps44
  go_wp2
  go_loopg [5, 8] 0 (fun _ _ s8 wr => s8 = .int .i64 0 ∧ wr = w)
  case atStart => exact ⟨rfl, rfl⟩
  case round =>
    obtain ⟨rfl, rfl⟩ := hrel
    go_wp2
    go_ret
    exact ⟨rfl, rfl⟩
theorem del_none (A : Option Addr) (c : Nat) (fv : Value) (w : World) : Calls Try.prog 32 #[.slice A 0 c, fv] w fun en w' => en = .returned (.slice A 0 c) ∧ w' = w := by
  have mixed := mixed
  have hI := fun w => idx_none A c fv w
  go_enter Try.func32, Try.ntmps32
  go_wp2_with (go_at_call 44; refine (hI _).mono ?_; rintro e w' ⟨rfl, rfl⟩)
  go_ret
  exact ⟨rfl, rfl⟩
theorem SpecT_del {g : FuncId} {cs : List D} {p : En → Bool} (eg : ∀ args w, (callFunc g args).run Try.prog w = .ok (.enter g args) w) (hspec : ∀ x : En, Spec Try.prog g (encV tEn x :: cs) (encV .bool (p x))) (xs : List En) :
    SpecT Try.prog 32 44 tEn xs [.clo g cs] (.own 44 tEn (xs.filter fun x => !p x)) := by
  refine ⟨enter_of (fn := Try.f32) rfl rfl rfl, fun w v0 vs F G0 hF hgl hown hsz hargs => ?_⟩
  obtain ⟨vc, hvc⟩ : ∃ vc, vs = #[vc] := by
    have h1 : vs.size = 1 := by simpa using hsz
    refine ⟨vs[0], Array.ext (by simp [h1]) fun i h2 h3 => ?_⟩
    have : i = 0 := by omega
    subst this; rfl
  subst hvc
  obtain ⟨vc', hvc1, hvc2⟩ := hargs 0 _ rfl
  have hvc3 : vc' = vc := by simpa using hvc1.symm
  subst hvc3
  obtain ⟨lb, rfl, hlb, hcap⟩ := hvc2
  rcases hown with ⟨hx, hG, A, rfl⟩ | ⟨b, cap, us, hG, hB, rfl, hh, hle, hcp, hus, hH⟩
  · subst hx
    refine (del_none A 0 _ w).mono ?_
    rintro en w' ⟨rfl, rfl⟩
    exact ⟨_, F, none, rfl, by rw [hG]; exact ⟨rfl, rfl, rfl, Nat.le_refl _, fun _ _ _ => rfl⟩, fun _ h => h, fun k hk => ⟨hF k hk, .inl hk⟩, fun k hk => (by cases hk), .inl ⟨rfl, rfl, A, rfl⟩⟩
  · have hlt : b < w.heap.size := (Array.getElem?_eq_some_iff.1 hh).1
    have hne : ¬F b := hB.2
    refine (delFn_w g lb p eg b cap xs w hlt hle hcp (fun W x hgr => ?_) (rowE_own hh hus hH)).mono ?_
    · have hsame : Same F w W := fun k hk => hgr.block k (hF k hk) fun e => hne (by injection e with e; rw [← e]; exact hk)
      have hs := (hspec x).2 W (#[.agg (encE x).toArray] ++ lb) F (fun k hk => Nat.lt_of_lt_of_le (hF k hk) hgr.size) (hgl.same hsame) (by simp [hlb]; omega) fun i d' hi => by
        cases i with
        | zero =>
          have hd : encV tEn x = d' := by simpa using hi
          subst hd
          exact ⟨.agg (encE x).toArray, by rw [Array.getElem?_append_left (by simp)]; rfl, R1.of_cells (rv_en.2 rfl) (.inr ⟨_, rfl⟩) fun _ => .inr ⟨_, _, rfl⟩⟩
        | succ i =>
          have hd : cs[i]? = some d' := by simpa using hi
          obtain ⟨u, h1, _, h2⟩ := hcap i d' hd
          refine ⟨u, by rw [Array.getElem?_append_right (by simp)]; simpa using h1, ?_⟩
          have h3 := h2.keep (w' := W) (F' := F) hsame fun _ h => h
          exact R1.of0 (RE.to0 h3)
      refine hs.mono ?_
      rintro e w' ⟨v, F', G, rfl, hb2, _, _, _, hr⟩
      have hv : v = .bool (p x) := by
        have hr' : [v] = [Value.bool (p x)] := hr
        injection hr'
      subst hv
      exact ⟨rfl, hb2⟩
    · rintro en w' ⟨rfl, hR⟩
      exact ⟨_, F, some b, rfl, by rw [hG]; exact hR.gr, fun _ h => h, fun k hk => ⟨Nat.lt_of_lt_of_le (hF k hk) hR.gr.size, .inl hk⟩, fun k hk => by cases hk; exact ⟨.inr hG, hB.2, Nat.lt_of_lt_of_le hlt hR.gr.size⟩,
        own_rowE trivial hR (Nat.le_trans (List.length_filter_le _ _) hle) hcp⟩

theorem vs_two {vs : Array Value} (h : vs.size = 2) : ∃ a b, vs = #[a, b] := by
  obtain ⟨l⟩ := vs
  match l, h with
  | [a, b], _ => exact ⟨a, b, rfl⟩
theorem two_args {w : World} {F : Nat → Prop} {vs : Array Value} {d1 d2 : D} (hsz : vs.size = 2) (h : ∀ (i : Nat) d', [d1, d2][i]? = some d' → ∃ v, vs[i]? = some v ∧ R1 w F noM v d') : ∃ a b, vs = #[a, b] ∧ R1 w F noM a d1 ∧ R1 w F noM b d2 := by
  obtain ⟨a, b, rfl⟩ := vs_two hsz
  obtain ⟨x, h1, h2⟩ := h 0 d1 rfl
  obtain ⟨y, h3, h4⟩ := h 1 d2 rfl
  have : a = x := by simpa using h1
  subst this
  have : b = y := by simpa using h3
  subst this
  exact ⟨a, b, rfl, h2, h4⟩

/-! ### host.Compare -/

theorem below_grow (w : World) (q : Nat) (os : Array Obj) : Below w.heap.size w (grow (w.drewN q) os) := ⟨rfl, rfl, rfl, by rw [size_grow]; show w.heap.size ≤ w.heap.size + _; omega, fun k hk => by
  rw [heap_grow_old (w.drewN q) os (by exact hk)]
  rfl⟩
def E35 : Int → D := fun x => encV tI x
def F35 (_ : Nat) (a b : En) : Option Int := some (cmpE a b)
theorem P35 (N : Nat) (a b : En) : ∀ r, F35 N a b = some r → Spec Try.prog 35 [.agg [.val tS a.1, .val tI a.2.1, .val tS a.2.2.1, .val tS a.2.2.2], .agg [.val tS b.1, .val tI b.2.1, .val tS b.2.2.1, .val tS b.2.2.2]] (E35 r) := fun r h => by
  cases h
  refine ⟨enter_of (fn := Try.f35) rfl rfl rfl, fun W vs F hF hgl hsz hargs => ?_⟩
  obtain ⟨v, u, rfl, hv, hu⟩ := two_args (hsz := hsz) hargs
  have agg : ∀ {x : En} {v : Value}, R1 W F noM v (.agg [.val tS x.1, .val tI x.2.1, .val tS x.2.2.1, .val tS x.2.2.2]) → v = .agg (encE x).toArray := fun {x v} h => by
    obtain ⟨vs, rfl, h1, h2⟩ := h
    congr 1
    apply Array.ext'
    apply List.ext_getElem?
    intro j
    rw [Array.getElem?_toList]
    rcases (show j = 0 ∨ j = 1 ∨ j = 2 ∨ j = 3 ∨ 4 ≤ j by omega) with rfl | rfl | rfl | rfl | hj
    · obtain ⟨u, g1, _, s, g2, g3⟩ := h2 0 _ rfl
      rw [g1]
      have : u = .string s := by simpa using g2
      rw [this, str_en g3]; rfl
    · obtain ⟨u, g1, _, g2⟩ := h2 1 _ rfl
      rw [g1]
      have g2 : [u] = [Value.int .i64 x.2.1] := g2
      have : u = .int .i64 x.2.1 := by simpa using g2
      rw [this]; rfl
    · obtain ⟨u, g1, _, s, g2, g3⟩ := h2 2 _ rfl
      rw [g1]
      have : u = .string s := by simpa using g2
      rw [this, str_en g3]; rfl
    · obtain ⟨u, g1, _, s, g2, g3⟩ := h2 3 _ rfl
      rw [g1]
      have : u = .string s := by simpa using g2
      rw [this, str_en g3]; rfl
    · rw [Array.getElem?_eq_none (by rw [h1]; exact hj)]
      exact (List.getElem?_eq_none (show (encE x).length ≤ j from hj)).symm
  rw [agg hv, agg hu]
  refine (cmpE_w a b W).mono ?_
  rintro en w' ⟨rfl, q, os, rfl⟩
  exact ⟨_, F, none, rfl, below_grow W q os, fun _ h => h, fun g hg => ⟨Nat.lt_of_lt_of_le (hF g hg) (below_grow W q os).size, .inl hg⟩, fun g hg => (by cases hg), rfl⟩

end Go.Proofs.Ytnkinnhgahpcoaa.Vc
