/-
  slices.Compact at entries: what it does with a row of the caller's own. No condition.
-/
import Derived.Test.YtnkinnhgahpcoaaAc
set_option linter.unusedVariables false
set_option linter.unusedSimpArgs false
set_option maxRecDepth 100000
namespace Go.Proofs.Ytnkinnhgahpcoaa.Vc
open Go.RowKit Go.Proofs Go.Lib

section
variable {α : Type} [DecidableEq α]
/-- Of runs of equal entries one each. -/
def ddS (acc : List α) (x : α) : List α := if acc.getLast? = some x then acc else acc ++ [x]
def ddA (l : List α) : List α := l.foldl ddS []
theorem ddA_snoc (l : List α) (x : α) : ddA (l ++ [x]) = ddS (ddA l) x := by unfold ddA; rw [List.foldl_append]; rfl
theorem ddS_last (acc : List α) (x : α) : (ddS acc x).getLast? = some x := by
  unfold ddS
  split
  · rename_i h; exact h
  · simp
theorem ddA_last (l : List α) : (ddA l).getLast? = l.getLast? := by
  rcases List.eq_nil_or_concat l with rfl | ⟨r, x, rfl⟩
  · rfl
  · rw [List.concat_eq_append, ddA_snoc, ddS_last]; simp
variable [Inhabited α]
theorem ddA_take (l : List α) {m : Nat} (h : m + 1 < l.length) : ddA (l.take (m + 2)) = if l[m + 1]! = l[m]! then ddA (l.take (m + 1)) else ddA (l.take (m + 1)) ++ [l[m + 1]!] := by
  rw [getElem!_pos l (m + 1) h, getElem!_pos l m (by omega), List.take_succ_eq_append_getElem h, ddA_snoc]
  unfold ddS
  rw [ddA_last]
  have e : (l.take (m + 1)).getLast? = some l[m] := by
    rw [List.getLast?_eq_getElem?, List.length_take, Nat.min_eq_left (by omega), List.getElem?_take, if_pos (by omega)]
    exact List.getElem?_eq_getElem (by omega)
  rw [e]
  by_cases h1 : l[m + 1] = l[m]
  · rw [if_pos h1, if_pos (by rw [h1])]
  · rw [if_neg h1, if_neg (by intro e; injection e with e; exact h1 e.symm)]
theorem ddA_all (l : List α) : ∀ m, m < l.length → (∀ j, j < m → l[j + 1]! ≠ l[j]!) → ddA (l.take (m + 1)) = l.take (m + 1)
  | 0, hm, _ => by
    cases l with
    | nil => rfl
    | cons a r => rfl
  | m + 1, hm, h => by
    rw [ddA_take l hm, if_neg (h m (by omega)), ddA_all l m (by omega) fun j hj => h j (by omega)]
    rw [List.take_succ_eq_append_getElem hm, getElem!_pos l (m + 1) hm]
end

/-- What the loop keeps: the first m elements are told, k of them stay. -/
structure CInv (l : List En) (m k : Nat) (d : Nat → En) : Prop where
  lt : k < m
  len : (ddA (l.take m)).length = k
  low : ∀ t, t < k → d t = (ddA (l.take m))[t]!
  high : ∀ t, k ≤ t → d t = l[t]!
theorem CInv.start {l : List En} {k : Nat} (hk : k + 1 < l.length) (h : ∀ j, j < k → l[j + 1]! ≠ l[j]!) (he : l[k + 1]! = l[k]!) : CInv l (k + 2) (k + 1) (fun t => l[t]!) := by
  have e : ddA (l.take (k + 2)) = l.take (k + 1) := by rw [ddA_take l hk, if_pos he, ddA_all l k (by omega) h]
  refine ⟨by omega, by rw [e, List.length_take]; omega, fun t ht => ?_, fun t _ => rfl⟩
  rw [e, getElem!_pos (l.take (k + 1)) t (by rw [List.length_take]; omega), List.getElem_take, getElem!_pos l t (by omega)]
theorem CInv.skip {l : List En} {m k : Nat} {d : Nat → En} (h : CInv l (m + 1) k d) (hm : m + 1 < l.length) (he : l[m + 1]! = l[m]!) : CInv l (m + 2) k d := by
  have e : ddA (l.take (m + 2)) = ddA (l.take (m + 1)) := by rw [ddA_take l hm, if_pos he]
  exact ⟨by have := h.lt; omega, by rw [e]; exact h.len, fun t ht => by rw [e]; exact h.low t ht, h.high⟩
theorem CInv.keep {l : List En} {m k : Nat} {d : Nat → En} (h : CInv l (m + 1) k d) (hm : m + 1 < l.length) (he : l[m + 1]! ≠ l[m]!) : CInv l (m + 2) (k + 1) (fun t => if t = k then l[m + 1]! else d t) := by
  have e : ddA (l.take (m + 2)) = ddA (l.take (m + 1)) ++ [l[m + 1]!] := by rw [ddA_take l hm, if_neg he]
  refine ⟨by have := h.lt; omega, by rw [e, List.length_append, h.len]; rfl, fun t ht => ?_, fun t ht => ?_⟩
  · rw [e]
    by_cases htk : t = k
    · subst htk
      simp only [if_true]
      rw [getElem!_pos _ t (by rw [List.length_append, h.len]; simp), List.getElem_append_right (by rw [h.len]; exact Nat.le_refl _)]
      simp [h.len]
    · simp only [if_neg htk]
      have h1 : t < (ddA (l.take (m + 1))).length := by rw [h.len]; omega
      rw [h.low t (by omega), getElem!_pos _ t h1, getElem!_pos _ t (by rw [List.length_append]; omega), List.getElem_append_left h1]
  · simp only [if_neg (show t ≠ k by omega)]
    exact h.high t (by omega)

/-- Whether two entries are equal. -/
def eqE (x y : En) : Bool := x.1 == y.1 && (x.2.1 == y.2.1 && (x.2.2.1 == y.2.2.1 && (x.2.2.2 == y.2.2.2 && true)))
theorem eqE_iff (x y : En) : eqE x y = true ↔ x = y := by
  unfold eqE
  simp only [Bool.and_eq_true, beq_iff_eq, and_true]
  constructor
  · rintro ⟨h1, h2, h3, h4⟩
    exact Prod.ext h1 (Prod.ext h2 (Prod.ext h3 h4))
  · rintro rfl
    exact ⟨rfl, rfl, rfl, rfl⟩
def celE (x : En) : List D := [.val .str x.1, .val (.int .i64) x.2.1, .val .str x.2.2.1, .val .str x.2.2.2]
theorem celE_ok (w : World) (x : En) : ∀ (j : Nat) c, (celE x)[j]? = some c → ∃ u, (encE x).toArray[j]? = some u ∧ u.oneCell' = true ∧ R0 w (fun _ => False) noM u c := fun j c hj => by
  rcases (show j = 0 ∨ j = 1 ∨ j = 2 ∨ j = 3 ∨ 4 ≤ j by omega) with rfl | rfl | rfl | rfl | h
  · have : D.val .str x.1 = c := by simpa [celE] using hj
    subst this
    exact ⟨_, rfl, rfl, _, rfl, by simp⟩
  · have : D.val (.int .i64) x.2.1 = c := by simpa [celE] using hj
    subst this
    exact ⟨_, rfl, rfl, rfl⟩
  · have : D.val .str x.2.2.1 = c := by simpa [celE] using hj
    subst this
    exact ⟨_, rfl, rfl, _, rfl, by simp⟩
  · have : D.val .str x.2.2.2 = c := by simpa [celE] using hj
    subst this
    exact ⟨_, rfl, rfl, _, rfl, by simp⟩
  · rw [List.getElem?_eq_none (show (celE x).length ≤ j from h)] at hj
    cases hj
theorem equal_en (x y : En) (w : World) : (Op.equal 44 (.agg (encE x).toArray) (.agg (encE y).toArray)).run Try.prog w = .ok (eqE x y) w := by
  obtain ⟨fs, ht⟩ : ∃ fs, Try.prog.underlying 44 = some (.struct fs) := ⟨_, rfl⟩
  have hfs : Try.prog.fieldsOf 44 = fs := by simp [Program.fieldsOf, ht]
  have e1 := run_equalIn_struct (P := Try.prog) w 9999 44 (encE x).toArray (encE y).toArray (by rw [hfs]; exact ht) (by kernel_rfl)
  rw [hfs] at e1
  refine e1.trans (eqFields_sound (w := w) (F := fun _ => False) (M := noM) (celE_ok w x) (celE_ok w y) 9998 fs.toList _ ?_ w)
  have h2 : some (TypeDesc.struct fs) = Try.prog.underlying 44 := ht.symm
  injection h2 with h2
  injection h2 with h2
  rw [h2]
  rfl
theorem eql_en (x y : En) (w : World) : Sem.run Try.prog (binOp .eql 44 (.agg (encE x).toArray) (.agg (encE y).toArray)) w = .ok (.bool (eqE x y)) w := by
  simp [binOp, equal_en]
theorem neq_en (x y : En) (w : World) : Sem.run Try.prog (binOp .neq 44 (.agg (encE x).toArray) (.agg (encE y).toArray)) w = .ok (.bool (!eqE x y)) w := by
  simp [binOp, equal_en]
theorem grd_en (op : BinOp) (p q : Operand) (us vs : Array Value) (w : World) : Sem.run Try.prog (eqGuard op 44 p q (.agg us) (.agg vs)) w = .ok () w := by
  have h2 : Try.prog.eqGuardType Try.prog.depth 44 = false := by kernel_rfl
  unfold eqGuard
  cases op <;> simp [h2]

set_option maxHeartbeats 8000000 in
set_option maxRecDepth 1000000 in
theorem cmpt_w (b cap : Nat) (d : List En) (w : World) (hb : b < w.heap.size) (hle : d.length ≤ cap) (hcap : cap ≤ 9223372036854775807) (hR : RowE w b cap d.length (fun i => d[i]!) w) :
    Calls Try.prog 40 #[.slice (some ⟨b, 0, none⟩) d.length cap] w fun e w' =>
      e = .returned (.slice (some ⟨b, 0, none⟩) (ddA d).length cap) ∧ RowE w b cap (ddA d).length (fun i => (ddA d)[i]!) w' := by
  have mixed := mixed
  have HR : Aside _ := hR
  have HB : Aside _ := hb
  obtain ⟨n, hn⟩ : ∃ n, d.length = n := ⟨_, rfl⟩
  have HN : Aside (d.length = n) := hn
  rw [hn] at hle ⊢
  clear hR hn
  by_cases h2 : n < 2
  · have h2' : (n : Int) < 2 := by omega
    go_enter Try.func40, Try.ntmps40
    go_wp2
    go_ret
    have e : ddA d = d := by
      cases d with
      | nil => rfl
      | cons x r =>
        cases r with
        | nil => rfl
        | cons y r => have := HN.out; simp at this; omega
    rw [e, HN.out]
    exact ⟨rfl, HN.out ▸ HR.out⟩
  · have h2' : ¬ (n : Int) < 2 := by omega
    go_enter Try.func40, Try.ntmps40
    go_wp2
    go_loopg [3] n (fun g1 s3 wr => ∃ kp : Nat, s3 = .int .i64 ((kp : Int) + 1) ∧ kp + 1 ≤ n ∧ n - (kp + 1) ≤ g1 ∧ Aside (RowE w b cap n (fun i => d[i]!) wr) ∧ Hid (∀ j, j < kp → d[j + 1]! ≠ d[j]!))
    case atStart => exact ⟨0, by rfl, by omega, by omega, HN.out ▸ HR.out, fun j h1 => by omega⟩
    case round =>
      obtain ⟨kp, rfl, hk, hg1, R1, HA⟩ := hrel
      by_cases hlt : kp + 1 < n
      · have hltz : (kp : Int) + 1 < (n : Int) := by omega
        obtain ⟨iN, hiN⟩ : ∃ q, q = kp + 1 := ⟨_, rfl⟩
        obtain ⟨jN, hjN⟩ : ∃ q, q = kp := ⟨_, rfl⟩
        have ea : ((kp : Int) + 1).toNat = iN := by omega
        have pa : (0 : Int) ≤ (kp : Int) + 1 := by omega
        have ra : IntKind.i64.wrap ((kp : Int) + 1) = (kp : Int) + 1 := by rw [IntKind.wrap_i64]; omega
        have ec : ((kp : Int)).toNat = jN := by omega
        have pc : (0 : Int) ≤ (kp : Int) := by omega
        have bc : (kp : Int) < (n : Int) := by omega
        have rc : IntKind.i64.wrap ((kp : Int)) = (kp : Int) := by rw [IntKind.wrap_i64]; omega
        obtain ⟨u0, u1, u2, u3⟩ := R1.out.cell hlt
        obtain ⟨o0, o1, o2, o3⟩ := R1.out.cell (show kp < n by omega)
        rw [← hiN] at u0 u1 u2 u3
        rw [← hjN] at o0 o1 o2 o3
        have he := fun w => eql_en d[iN]! d[jN]! w
        have hq := fun w => equal_en d[iN]! d[jN]! w
        unfold encE at he hq
        obtain ⟨r, hr⟩ : ∃ r, eqE d[iN]! d[jN]! = r := ⟨_, rfl⟩
        rw [hr] at he hq
        have HE : Aside (eqE d[iN]! d[jN]! = r) := hr
        clear hr
        have hgd := grd_en
        generalize hx1 : (⟨(d[iN]!).1.toArray⟩ : ByteArray) = x1 at u0 he hq
        generalize hxm : (d[iN]!).2.1 = xm at u1 he hq
        generalize hx2 : (⟨(d[iN]!).2.2.1.toArray⟩ : ByteArray) = x2 at u2 he hq
        generalize hx3 : (⟨(d[iN]!).2.2.2.toArray⟩ : ByteArray) = x3 at u3 he hq
        generalize hy1 : (⟨(d[jN]!).1.toArray⟩ : ByteArray) = y1 at o0 he hq
        generalize hym : (d[jN]!).2.1 = ym at o1 he hq
        generalize hy2 : (⟨(d[jN]!).2.2.1.toArray⟩ : ByteArray) = y2 at o2 he hq
        generalize hy3 : (⟨(d[jN]!).2.2.2.toArray⟩ : ByteArray) = y3 at o3 he hq
        have HX : Aside (iN = kp + 1 ∧ jN = kp) := ⟨hiN, hjN⟩
        clear hiN hjN hx1 hxm hx2 hx3 hy1 hym hy2 hy3
        go_wp2_with fail
        go_quiet (fail)
        have R2 : Aside (RowE w b cap n (fun i => d[i]!) (wr.drewN nq)) := R1.out.drewN nq
        generalize wr.drewN nq = w2 at R2 ⊢
        clear he hq u0 u1 u2 u3 o0 o1 o2 o3 R1 nq
        cases r with
        | true =>
          have HK : Aside (d[kp + 1]! = d[kp]!) := by
            have := (eqE_iff _ _).1 HE.out
            rwa [HX.out.1, HX.out.2] at this
          have HI : Aside (iN = kp + 1) := HX.out.1
          clear HE HX
          have s1 : (kp : Int) + 1 ≤ (n : Int) := by omega
          have s2 : (n : Int) ≤ (cap : Int) := by omega
          have s3 : (kp : Int) + 1 ≤ (cap : Int) := by omega
          have hiN : iN < n := by have := HI.out; omega
          have hic : iN ≠ cap := by omega
          go_wp2
          go_loopg [3, 5] n (fun g2 s3 s5 wr2 => ∃ (kk k2p : Nat) (dk : Nat → En), s3 = .int .i64 (kk : Int) ∧ s5 = .int .i64 ((k2p : Int) + 1) ∧ iN + (k2p + 1) ≤ n ∧ n - (iN + (k2p + 1)) ≤ g2 ∧ kk < n ∧
            Aside (RowE w b cap n dk wr2) ∧ Hid (CInv d (iN + (k2p + 1)) kk dk))
          case atStart =>
            refine ⟨iN, 0, _, by have := HI.out; congr 1; omega, by rfl, by omega, by omega, hiN, R2, ?_⟩
            have := HI.out
            subst this
            exact CInv.start (by rw [HN.out]; omega) HA.out HK.out
          case round =>
            clear R2
            obtain ⟨kk, k2p, dk, rfl, rfl, hle2, hg2, hkk, R3, HV⟩ := hrel
            have t1 : (kk : Int) ≤ (n : Int) := by omega
            have t2 : (kk : Int) ≤ (cap : Int) := by omega
            have t3 : (kk : Int) < (n : Int) := by omega
            by_cases hlt2 : iN + (k2p + 1) < n
            · have hl2 : (k2p : Int) + 1 < ((n - iN : Nat) : Int) := by omega
              obtain ⟨aN, haN⟩ : ∃ q, q = k2p + 1 := ⟨_, rfl⟩
              obtain ⟨bN, hbN⟩ : ∃ q, q = k2p := ⟨_, rfl⟩
              have ea2 : ((k2p : Int) + 1).toNat = aN := by omega
              have pa2 : (0 : Int) ≤ (k2p : Int) + 1 := by omega
              have ra2 : IntKind.i64.wrap ((k2p : Int) + 1) = (k2p : Int) + 1 := by rw [IntKind.wrap_i64]; omega
              have ra3 : IntKind.i64.wrap ((k2p : Int) + 1 + 1) = (k2p : Int) + 1 + 1 := by rw [IntKind.wrap_i64]; omega
              have ra4 : IntKind.i64.wrap ((kk : Int) + 1) = (kk : Int) + 1 := by rw [IntKind.wrap_i64]; omega
              have ec2 : ((k2p : Int)).toNat = bN := by omega
              have pc2 : (0 : Int) ≤ (k2p : Int) := by omega
              have bc2 : (k2p : Int) < ((n - iN : Nat) : Int) := by omega
              have rc2 : IntKind.i64.wrap ((k2p : Int)) = (k2p : Int) := by rw [IntKind.wrap_i64]; omega
              obtain ⟨u0, u1, u2, u3⟩ := R3.out.cell hlt2
              obtain ⟨o0, o1, o2, o3⟩ := R3.out.cell (show iN + k2p < n by omega)
              have hlk := HV.out.lt
              have hdu : dk (iN + (k2p + 1)) = d[iN + bN + 1]! := by rw [hbN]; exact HV.out.high _ (by omega)
              have hdo : dk (iN + k2p) = d[iN + bN]! := by rw [hbN]; exact HV.out.high _ (by omega)
              rw [hdu] at u0 u1 u2 u3
              rw [hdo] at o0 o1 o2 o3
              rw [← haN, show (iN + aN) * 4 = iN * 4 + aN * 4 by omega] at u0 u1 u2 u3
              rw [← hbN, show (iN + bN) * 4 = iN * 4 + bN * 4 by omega] at o0 o1 o2 o3
              have he := fun w => neq_en d[iN + k2p + 1]! d[iN + k2p]! w
              have hq := fun w => equal_en d[iN + k2p + 1]! d[iN + k2p]! w
              rw [← hbN] at he hq
              unfold encE at he hq
              obtain ⟨r, hr⟩ : ∃ r, eqE d[iN + bN + 1]! d[iN + bN]! = r := ⟨_, rfl⟩
              rw [hr] at he hq
              have HE : Aside (eqE d[iN + bN + 1]! d[iN + bN]! = r) := hr
              clear hr
              have HM : Aside (aN = k2p + 1 ∧ bN = k2p) := ⟨haN, hbN⟩
              clear haN hbN hdu hdo
              generalize hU : d[iN + bN + 1]! = U at u0 u1 u2 u3 he hq
              have HU : Aside (d[iN + bN + 1]! = U) := hU
              clear hU
              generalize hx1 : (⟨U.1.toArray⟩ : ByteArray) = x1 at u0 he hq
              generalize hxm : U.2.1 = xm at u1 he hq
              generalize hx2 : (⟨U.2.2.1.toArray⟩ : ByteArray) = x2 at u2 he hq
              generalize hx3 : (⟨U.2.2.2.toArray⟩ : ByteArray) = x3 at u3 he hq
              generalize (⟨(d[iN + bN]!).1.toArray⟩ : ByteArray) = y1 at o0 he hq
              generalize (d[iN + bN]!).2.1 = ym at o1 he hq
              generalize (⟨(d[iN + bN]!).2.2.1.toArray⟩ : ByteArray) = y2 at o2 he hq
              generalize (⟨(d[iN + bN]!).2.2.2.toArray⟩ : ByteArray) = y3 at o3 he hq
              have HX : Aside ((⟨U.1.toArray⟩ : ByteArray) = x1 ∧ U.2.1 = xm ∧ (⟨U.2.2.1.toArray⟩ : ByteArray) = x2 ∧ (⟨U.2.2.2.toArray⟩ : ByteArray) = x3) := ⟨hx1, hxm, hx2, hx3⟩
              clear hx1 hxm hx2 hx3
              go_wp2_with fail
              go_quiet (fail)
              have R4 : Aside (RowE w b cap n dk (wr.drewN nq)) := R3.out.drewN nq
              generalize hw3 : wr.drewN nq = w3 at R4 ⊢
              have v0 : w3.cell? ⟨b, iN * 4 + aN * 4, none⟩ = some (.string x1) := by rw [← hw3]; exact u0
              have v1 : w3.cell? ⟨b, iN * 4 + aN * 4 + 1, none⟩ = some (.int .i64 xm) := by rw [← hw3]; exact u1
              have v2 : w3.cell? ⟨b, iN * 4 + aN * 4 + 2, none⟩ = some (.string x2) := by rw [← hw3]; exact u2
              have v3 : w3.cell? ⟨b, iN * 4 + aN * 4 + 3, none⟩ = some (.string x3) := by rw [← hw3]; exact u3
              clear he hq u0 u1 u2 u3 o0 o1 o2 o3 hw3 R3 nq
              cases r with
              | true =>
                have HV2 : Hid (CInv d (iN + (k2p + 1) + 1) kk dk) := by
                  have := (eqE_iff _ _).1 HE.out
                  rw [HM.out.2] at this
                  exact HV.out.skip (m := iN + k2p) (by rw [HN.out]; omega) this
                clear HE HU HX v0 v1 v2 v3 HV
                go_wp2
                go_roundg (n - (iN + (k2p + 2)))
                case measure => omega
                case rel => exact ⟨kk, k2p + 1, dk, rfl, by go_num, by omega, by omega, hkk, R4, HV2⟩
              | false =>
                have hne : d[iN + k2p + 1]! ≠ d[iN + k2p]! := fun e => by
                  have h1 := HE.out
                  rw [HM.out.2, (eqE_iff _ _).2 e] at h1
                  cases h1
                have HV2 : Hid (CInv d (iN + (k2p + 1) + 1) (kk + 1) (fun t => if t = kk then U else dk t)) := by
                  have := HV.out.keep (m := iN + k2p) (by rw [HN.out]; omega) hne
                  rw [← HU.out, HM.out.2]
                  exact this
                have R5 : Aside (RowE w b cap n (fun t => if t = kk then U else dk t) ((((w3.setCell ⟨b, kk * 4, none⟩ (.string x1)).setCell ⟨b, kk * 4 + 1, none⟩ (.int .i64 xm)).setCell ⟨b, kk * 4 + 2, none⟩ (.string x2)).setCell ⟨b, kk * 4 + 3, none⟩ (.string x3))) := by
                  have := R4.out.set4 hkk hle U
                  obtain ⟨e1, e2, e3, e4⟩ := HX.out
                  rw [e1, e2, e3, e4] at this
                  exact this
                obtain ⟨p0, p1, p2, p3⟩ := R4.out.cell hkk
                have z0 := R4.out.frozen (kk * 4)
                have z1 := R4.out.frozen (kk * 4 + 1)
                have z2 := R4.out.frozen (kk * 4 + 2)
                have z3 := R4.out.frozen (kk * 4 + 3)
                generalize (⟨(dk kk).1.toArray⟩ : ByteArray) = y1 at p0
                generalize (dk kk).2.1 = ym at p1
                generalize (⟨(dk kk).2.2.1.toArray⟩ : ByteArray) = y2 at p2
                generalize (⟨(dk kk).2.2.2.toArray⟩ : ByteArray) = y3 at p3
                have hkk9 : kk + 1 < n := by omega
                clear HE HU HX HV R4 hne
                go_wp2
                go_roundg (n - (iN + (k2p + 2)))
                case measure => omega
                case rel => exact ⟨kk + 1, k2p + 1, _, by go_num, by go_num, by omega, by omega, hkk9, R5, HV2⟩
            · have hend : iN + (k2p + 1) = n := by omega
              have hl2 : ¬ (k2p : Int) + 1 < ((n - iN : Nat) : Int) := by omega
              obtain ⟨W', hcl, RC⟩ := R3.out.clear hkk hle
              have RD : Aside (RowE w b cap kk dk W') := RC
              clear RC R3
              have hkc : kk ≠ cap := by omega
              go_wp2
              go_ret
              have hV := HV.out
              rw [hend] at hV
              have hlen := hV.len
              rw [List.take_of_length_le (by rw [HN.out]; exact Nat.le_refl _)] at hlen
              rw [hlen]
              refine ⟨rfl, RD.out.gr, ?_⟩
              obtain ⟨us, h1, h2, h3⟩ := RD.out.row
              refine ⟨us, h1, h2, fun t ht c v hc => h3 t ht c v ?_⟩
              have := hV.low t ht
              rw [List.take_of_length_le (by rw [HN.out]; exact Nat.le_refl _)] at this
              rw [this, List.getElem!_eq_getElem?_getD]; exact hc
        | false =>
          have HA2 : Hid (∀ j, j < kp + 1 → d[j + 1]! ≠ d[j]!) := fun j h1 => by
            by_cases e : j = kp
            · subst e
              intro e2
              have h1 := HE.out
              rw [HX.out.1, HX.out.2, (eqE_iff _ _).2 e2] at h1
              cases h1
            · exact HA.out j (by omega)
          have ra3 : IntKind.i64.wrap ((kp : Int) + 1 + 1) = (kp : Int) + 1 + 1 := by rw [IntKind.wrap_i64]; omega
          clear HE HX HA ea ec
          go_wp2
          go_roundg (n - (kp + 2))
          case measure => omega
          case rel => exact ⟨kp + 1, by go_num, by omega, by omega, R2, HA2⟩
      · have hltz : ¬ (kp : Int) + 1 < (n : Int) := by omega
        have hkd : kp + 1 = n := by omega
        go_wp2
        go_ret
        have e : ddA d = d := by
          have := ddA_all d kp (by rw [HN.out]; omega) HA.out
          rwa [List.take_of_length_le (by rw [HN.out]; omega)] at this
        rw [e, HN.out]
        refine ⟨rfl, ?_⟩
        have := R1.out
        simpa only [List.getElem!_eq_getElem?_getD] using this

end Go.Proofs.Ytnkinnhgahpcoaa.Vc
