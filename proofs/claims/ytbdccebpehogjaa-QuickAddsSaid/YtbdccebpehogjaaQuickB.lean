/-
  What finite and bound compute. AcvNo conditions beyond the lemmas' own hypotheses.
-/
import Derived.Test.YtbdccebpehogjaaQuickA
import Derived.RegionTactic
import Derived.WalkKit
import Derived.Test.YtbdccebpehogjaaNatC
set_option linter.unusedSimpArgs false
set_option linter.unnecessarySimpa false
set_option linter.unusedVariables false
set_option linter.constructorNameAsVariable false

/-
 What law5's comparisons, quick.Less and quick.Exact compute; and that 'finite' tells finite floats.
-/
namespace Go.Proofs.Ytbdccebpehogjaa
open Go Go.Abs Go.Flo Go.RowKit
variable {base : Prot}
set_option maxRecDepth 20000
theorem fn_of_walk {P : Program} {base : Prot} {f : FuncId} (hg : goodFn P f = true) {s : List PVal → Option PVal}
  (h : ∀ ps x, s ps = some x → ∀ (c : Ctx) (w : World) (vs : List Value), vs.length = ps.length → (∀ (j : Nat) y v, ps[j]? = some y → vs[j]? = some v → PRep c.prot y v) →
   Calls P f vs.toArray w fun e w' => ∃ v, e = .returned v ∧ PRep c.prot x v ∧ Grew w w') : FnOk P base f (pureS s) := by
 refine ⟨hg, fun args r E hs c w vs hI hr => ?_⟩
 unfold pureS at hs
 cases hx : s args with
 | none => rw [hx] at hs; cases hs
 | some x =>
  rw [hx] at hs
  cases hs
  refine (h args x hx c w vs (by simpa using hr.1) (fun j y v h1 h2 => ?_)).mono ?_
  ·have := hr.2 j (.p y) v (by simp [h1]) h2
   cases this with
   | p _ _ hp => exact hp
  ·rintro e w' ⟨v, rfl, hp, hg⟩
   have h0 : c.locs = [] := List.length_eq_zero_iff.1 (by rw [hI.len]; rfl)
   exact ⟨v, c, rfl, hg.step c, hI.grew hg, .p _ _ hp⟩
theorem sub_self {b : Nat} (h : Fin64 b) : Ieee.double.sub b b = some 0 := by
 rw [sub_fin h h]
 have e : sv b - sv b = 0 := by omega
 have e2 : (sg b && !sg b) = false := by cases sg b <;> rfl
 rw [e, e2]; rfl
theorem sub_inf {b : Nat} (hb : b < 18446744073709551616) (h : ¬ rg b < 9218868437227405312) : Ieee.double.sub b b = none := by
 by_cases hi : rg b = 9218868437227405312
 ·have e : b = wd (sg b) 9218868437227405312 := by rw [← hi, wd_parts hb]
  have hr : Ieee.double.read b = .infinity (sg b) := by
   have := read_inf (sg b)
   rwa [← e] at this
  unfold Ieee.Format.sub
  rw [hr]
  cases sg b <;> rfl
 ·have hl : rg b < 9223372036854775808 := Nat.mod_lt _ (by decide)
  have e : Ieee.double.read b = .nan (sg b) (rg b - 9218868437227405312) := by
   unfold Ieee.Format.read
   simp only [d_sgn, d_binade, d_inf, d_least]
   have e : b % 9223372036854775808 = rg b := rfl
   rw [e, if_neg (by omega), if_neg (by omega), if_neg (by omega)]
   rfl
  unfold Ieee.Format.sub
  rw [e]; rfl
theorem run_sub_fin {b : Nat} (h : Fin64 b) (t : TypeId) (w : World) : (binOp .sub t (.float .f64 b) (.float .f64 b)).run Try.prog w = .ok (.float .f64 0) w := by
 show (Op.floatArith .sub .f64 b b).run Try.prog w = _
 simp only [Op.floatArith, fmt64, sub_self h]
 rfl
theorem run_sub_inf {b : Nat} (hb : b < 18446744073709551616) (h : ¬ rg b < 9218868437227405312) (t : TypeId) (w : World) : (binOp .sub t (.float .f64 b) (.float .f64 b)).run Try.prog w = .ok (.float .f64 ((Question.nanBits .f64 b b).cut (w.tape w.drawn (.nanBits .f64 b b)))) w.drew := by
 show (Op.floatArith .sub .f64 b b).run Try.prog w = _
 simp only [Op.floatArith, fmt64, sub_inf hb h]
 rfl
theorem nan_rg (b t : Nat) : 9218868437227405312 < rg ((Question.nanBits .f64 b b).cut t) := by
 show 9218868437227405312 < ((t % 2) * 2 ^ 63 + 0x7ff0000000000000 + 1 + (t / 2) % (2 ^ 52 - 1)) % 9223372036854775808
 rw [p63, p52]
 have hm : t / 2 % (4503599627370496 - 1) < 4503599627370496 - 1 := Nat.mod_lt _ (by decide)
 have h2 : t % 2 = 0 ∨ t % 2 = 1 := by omega
 generalize t / 2 % (4503599627370496 - 1) = m at *
 rcases h2 with h2 | h2 <;> rw [h2] <;> omega
theorem finite_walk {b : Nat} (hb : b < 18446744073709551616) (w : World) : Calls Try.prog 17 #[.float .f64 b] w fun e w' => e = .returned (.bool (decide (rg b < 9218868437227405312))) ∧ Grew w w' := by
 by_cases h : rg b < 9218868437227405312
 ·have h1 := @run_sub_fin b ⟨hb, h⟩
  have h2 : (FloatKind.f64.format.order 0 0 == some Ordering.eq) = true := by decide
  go_enter Try.func17, Try.ntmps17
  go_wp2
  go_ret
  exact ⟨by rw [decide_eq_true h]; rfl, Grew.refl _⟩
 ·have h1 := @run_sub_inf b hb h
  have h3 := nan_rg b (w.tape w.drawn (.nanBits .f64 b b))
  have h2 : (FloatKind.f64.format.order ((Question.nanBits .f64 b b).cut (w.tape w.drawn (.nanBits .f64 b b))) 0 == some Ordering.eq) = false := by
   rw [fmt64, ord_nan h3]; rfl
  generalize hN : (Question.nanBits .f64 b b).cut (w.tape w.drawn (.nanBits .f64 b b)) = N at *
  have h1' := fun t => h1 t w
  rw [hN] at h1'
  clear h1
  go_enter Try.func17, Try.ntmps17
  go_wp2
  go_ret
  exact ⟨by rw [decide_eq_false h]; rfl, Grew.drew _⟩
def sFin : List PVal → Option PVal
 | [.flt .f64 b] => if b < 18446744073709551616 then some (.bool (decide (rg b < 9218868437227405312))) else none
 | _ => none
theorem finite_ok : FnOk Try.prog base 17 (pureS sFin) := by
 refine fn_of_walk (by kernel_rfl) fun ps x hs c w vs hl hr => ?_
 unfold sFin at hs
 split at hs
 case h_2 => cases hs
 rename_i b
 split at hs
 case isFalse => cases hs
 rename_i hb
 cases hs
 match vs, hl with
 | [a], _ =>
  have ha := hr 0 _ a rfl rfl
  cases ha
  exact (finite_walk hb w).mono fun e w' ⟨h1, h2⟩ => ⟨_, h1, .bool _, h2⟩
attribute [local irreducible] vc
attribute [local simp] pureS touchV freezeL fuel shiftV vsBits sFrom
def eqW (a b : Nat) : Bool := (decide (rg a ≤ 9218868437227405312) && decide (rg b ≤ 9218868437227405312) && decide (ky a = ky b)) || (decide (9218868437227405312 < rg a) && decide (9218868437227405312 < rg b))
def sEqual : List PVal → Option PVal
 | [.flt .f64 a, .flt .f64 b] => if a < 18446744073709551616 ∧ b < 18446744073709551616 then some (.bool (eqW a b)) else none
 | _ => none
theorem eql_all {a b : Nat} (ha : a < 18446744073709551616) (hb : b < 18446744073709551616) : binF .eql .f64 a b = some (.bool (decide (rg a ≤ 9218868437227405312) && decide (rg b ≤ 9218868437227405312) && decide (ky a = ky b))) := by
 by_cases h1 : rg a ≤ 9218868437227405312
 ·by_cases h2 : rg b ≤ 9218868437227405312
  ·rw [(ord_lt ⟨ha, h1⟩ ⟨hb, h2⟩).2.2.2.2.1, decide_eq_true h1, decide_eq_true h2]; rfl
  ·simp only [binF, fmt64, ord_nan' (b := b) (a := a) (by omega), decide_eq_false h2, Bool.and_false, Bool.false_and]; rfl
 ·simp only [binF, fmt64, ord_nan (b := b) (a := a) (by omega), decide_eq_false h1, Bool.false_and]; rfl
theorem neq_self {a : Nat} (ha : a < 18446744073709551616) : binF .neq .f64 a a = some (.bool (decide (9218868437227405312 < rg a))) := by
 by_cases h : 9218868437227405312 < rg a
 ·simp only [binF, fmt64, ord_nan h, decide_eq_true h]; rfl
 ·rw [(ord_lt (a := a) (b := a) ⟨ha, by omega⟩ ⟨ha, by omega⟩).2.2.2.2.2, decide_eq_false h]
  simp
theorem equal_ok : FnOk Try.prog base 26 (pureS sEqual) := by
 refine pure_of_vc vmix Tab.none_ok globNone low26 fun args z hs hf => ?_
 unfold sEqual at hs
 split at hs
 case h_2 => cases hs
 rename_i a b
 split at hs
 case isFalse => cases hs
 rename_i hab
 cases hs
 refine ⟨by simp [lf26], ?_⟩
 have h1 := eql_all hab.1 hab.2
 have h2 := neq_self hab.1
 have h3 := neq_self hab.2
 unfold eqW
 generalize (decide (rg a ≤ 9218868437227405312) && decide (rg b ≤ 9218868437227405312) && decide (ky a = ky b)) = A at *
 generalize decide (9218868437227405312 < rg a) = B at *
 generalize decide (9218868437227405312 < rg b) = C at *
 cases A <;> cases B <;> simp [lf26, h1, h2, h3]
def sSameC : List PVal → Option PVal
 | [.cpx .f64 a b, .cpx .f64 c d] => if (a < 18446744073709551616 ∧ b < 18446744073709551616) ∧ c < 18446744073709551616 ∧ d < 18446744073709551616 then some (.bool (eqW a c && eqW b d)) else none
 | _ => none
def Teq : Tab := Tab.none.with 26 (pureS sEqual)
theorem Teq_ok : TabOk Try.prog base Teq := Tab.with_ok Tab.none_ok equal_ok
theorem Teq_mu (f : FuncId) (a : List AVal) (H : Heap) : Teq.mu f a H = none := (rfl)
theorem Teq_1 : Teq.fn 26 = pureS sEqual := (rfl)
theorem samec_ok : FnOk Try.prog base 12 (pureS sSameC) := by
 refine pure_of_vc vmix Teq_ok globNone low12 fun args z hs hf => ?_
 unfold sSameC at hs
 split at hs
 case h_2 => cases hs
 rename_i a b c d
 split at hs
 case isFalse => cases hs
 rename_i hab
 cases hs
 refine ⟨by simp [lf12], ?_⟩
 have h1 : sEqual [.flt .f64 a, .flt .f64 c] = some (.bool (eqW a c)) := if_pos ⟨hab.1.1, hab.2.1⟩
 have h2 : sEqual [.flt .f64 b, .flt .f64 d] = some (.bool (eqW b d)) := if_pos ⟨hab.1.2, hab.2.2⟩
 generalize eqW a c = A at *
 generalize eqW b d = B at *
 cases A <;> simp [lf12, Teq_mu, Teq_1, h1, h2]
def NoNaN4 (a b c d : Nat) : Prop := (NoNaN a ∧ NoNaN b) ∧ NoNaN c ∧ NoNaN d
instance (a b c d : Nat) : Decidable (NoNaN4 a b c d) := inferInstanceAs (Decidable (((_ ∧ _) ∧ _ ∧ _) ∧ (_ ∧ _) ∧ (_ ∧ _)))
def lessW (b c : Nat) (a d : Nat) : Bool × Bool := if ky b < ky c then (true, true) else if ky d ≤ ky a then (false, true) else (false, false)
def sLess : List PVal → Option PVal
 | [.cpx .f64 a b, .cpx .f64 c d] => if NoNaN4 a b c d then some (.tup [.bool (lessW b c a d).1, .bool (lessW b c a d).2]) else none
 | _ => none
theorem vless_ok : FnOk Try.prog base 22 (pureS sLess) := by
 refine pure_of_vc vmix Tab.none_ok globNone low22 fun args z hs hf => ?_
 unfold sLess at hs
 split at hs
 case h_2 => cases hs
 rename_i a b c d
 split at hs
 case isFalse => cases hs
 rename_i hn
 cases hs
 obtain ⟨⟨ha, hb⟩, hc, hd⟩ := hn
 refine ⟨by simp [lf22], ?_⟩
 have h1 := (ord_lt hb hc).1
 have h2 := (ord_lt ha hd).2.2.2.1
 unfold lessW
 by_cases e1 : ky b < ky c
 ·rw [decide_eq_true e1] at h1
  rw [if_pos e1]
  simp [lf22, h1]
 ·rw [decide_eq_false e1] at h1
  rw [if_neg e1]
  by_cases e2 : ky d ≤ ky a
  ·rw [decide_eq_true e2] at h2
   rw [if_pos e2]
   simp [lf22, h1, h2]
  ·rw [decide_eq_false e2] at h2
   rw [if_neg e2]
   simp [lf22, h1, h2]
def NoNaN2 (a b : Nat) : Prop := NoNaN a ∧ NoNaN b
instance (a b : Nat) : Decidable (NoNaN2 a b) := inferInstanceAs (Decidable ((_ ∧ _) ∧ (_ ∧ _)))
def sExact : List PVal → Option PVal
 | [.cpx .f64 a b] => if NoNaN2 a b then some (.bool (decide (ky a = ky b) && !infS a 0)) else none
 | _ => none
def Tvex : Tab := Tab.none.with 31 (pureS sInf2)
theorem Tvex_ok : TabOk Try.prog base Tvex := Tab.with_ok Tab.none_ok isinf_ok
theorem Tvex_mu (f : FuncId) (a : List AVal) (H : Heap) : Tvex.mu f a H = none := (rfl)
theorem Tex_1 : Tvex.fn 31 = pureS sInf2 := (rfl)
theorem exact_ok : FnOk Try.prog base 21 (pureS sExact) := by
 refine pure_of_vc vmix Tvex_ok globNone low21 fun args z hs hf => ?_
 unfold sExact at hs
 split at hs
 case h_2 => cases hs
 rename_i a b
 split at hs
 case isFalse => cases hs
 rename_i hn
 cases hs
 refine ⟨by simp [lf21], ?_⟩
 have h1 := (ord_lt hn.1 hn.2).2.2.2.2.1
 have h2 : sInf2 [.flt .f64 a, .int .i64 0] = some (.bool (infS a 0)) := if_pos hn.1.1
 generalize decide (ky a = ky b) = A at *
 generalize infS a 0 = B at *
 cases A <;> simp [lf21, Tvex_mu, Tex_1, h1, h2]
end Go.Proofs.Ytbdccebpehogjaa

/-
 What quick.bounds computes.
-/
namespace Go.Flo
theorem next_pos {r : Nat} (h : r < 9218868437227405312) : nxtW r (wd false 9218868437227405312) = r + 1 := by
 have e : wd false r = r := by unfold wd; rw [if_neg (by decide)]
 have hk : ky r = r := by have := ky_wd false (r := r) (by omega); rw [e] at this; simpa using this
 have hr : rg r = r := by have := rg_wd false (r := r) (by omega); rwa [e] at this
 have hy : ky (wd false 9218868437227405312) = 9218868437227405312 := by decide
 unfold nxtW
 rw [hk, hy, hr, if_neg (by omega), sg_wd _ (by decide)]
 by_cases h0 : r = 0
 ·subst h0; decide
 ·rw [if_neg h0, decide_eq_true (by omega), decide_eq_true (by omega), if_pos rfl]
end Go.Flo
namespace Go.Proofs.Ytbdccebpehogjaa
open Go Go.Abs Go.Flo Go.Limbs
variable {base : Prot}
set_option maxRecDepth 20000
attribute [local irreducible] vc
attribute [local simp] pureS touchV freezeL fuel shiftV u64 au
theorem i2f_at {q : Nat} (h0 : 0 < q) (h : q ≤ 9007199254740992) : ∃ r, FloatKind.f64.nearest (q : Int) = r ∧ mg r = q * sc ∧ Fin64 r ∧ rg r = r ∧ sg r = false ∧ 0 < r := by
 obtain ⟨r, h1, h2, h3, h4⟩ := nearest_int h0 h
 have e : wd false r = r := by unfold wd; rw [if_neg (by decide)]
 refine ⟨r, ?_, h2, by have := fin_wd false h3; rwa [e] at this, by have := rg_wd false (r := r) (by omega); rwa [e] at this, by have := sg_wd false (r := r) (by omega); rwa [e] at this, h4⟩
 have e2 : FloatKind.f64.nearest (q : Int) = Ieee.double.nearest (decide ((q : Int) < 0)) (q : Int).natAbs 0 := rfl
 rw [e2, decide_eq_false (by omega), Int.natAbs_natCast, h1, e]
theorem ld_quot {q : Nat} {b : Int} {R r : Nat} (hm : mg R = q * 2 ^ pk b) (hR : R < 9218868437227405312) (hr : mg r = q * sc) (hg : rg r = r) (hb : b ≤ 1074) : LdOk r (-b) R := by
 refine ⟨?_, hR⟩
 rw [hg, hr, hm]
 unfold sc
 rcases pk_split hb with ⟨h0, e⟩ | ⟨h0, e⟩
 ·unfold sc at e
  rw [show (- -b).toNat = b.toNat by omega, show (-b).toNat = 0 by omega, Nat.pow_zero, Nat.mul_one, e, Nat.mul_assoc, Nat.mul_comm (2 ^ pk b)]
 ·unfold sc at e
  rw [show (- -b).toNat = 0 by omega, Nat.pow_zero, Nat.mul_one, e, Nat.mul_assoc]
def Tbo (sl sn : List PVal → Option PVal) : Tab := ((((((Tab.none.with 73 (pureS sSize)).with 35 (pureS sLeft)).with 74 (pureS sRight)).with 67 (pureS sQuot)).with 19 (pureS sInfW)).with 29 (pureS sl)).with 18 (pureS sn)
variable {sl sn : List PVal → Option PVal}
theorem Tbo_ok (okl : FnOk Try.prog base 29 (pureS sl)) (okn : FnOk Try.prog base 18 (pureS sn)) : TabOk Try.prog base (Tbo sl sn) := Tab.with_ok (Tab.with_ok (Tab.with_ok (Tab.with_ok (Tab.with_ok (Tab.with_ok (Tab.with_ok Tab.none_ok size_ok) left_ok) right_ok) quot_ok) infw_ok) okl) okn
theorem Tbo_mu (f : FuncId) (a : List AVal) (H : Heap) : (Tbo sl sn).mu f a H = none := (rfl)
theorem Tbo_fns : (Tbo sl sn).fn 73 = pureS sSize ∧ (Tbo sl sn).fn 35 = pureS sLeft ∧ (Tbo sl sn).fn 74 = pureS sRight ∧ (Tbo sl sn).fn 67 = pureS sQuot ∧ (Tbo sl sn).fn 19 = pureS sInfW ∧ (Tbo sl sn).fn 29 = pureS sl ∧ (Tbo sl sn).fn 18 = pureS sn := ⟨rfl, rfl, rfl, rfl, rfl, rfl, rfl⟩
structure LdNx (sl sn : List PVal → Option PVal) : Prop where
 ld : ∀ (r R : Nat) (b : Int), Fin64 r → 0 < rg r → sg r = false → (-100000 ≤ b ∧ b ≤ 100000) → R < 9218868437227405312 → LdOk r b R → sl [.flt .f64 r, .int .i64 b] = some (.flt .f64 R)
 ldz : ∀ b : Int, (-100000 ≤ b ∧ b ≤ 100000) → sl [.flt .f64 0, .int .i64 b] = some (.flt .f64 0)
 nx : ∀ r : Nat, r < 9218868437227405312 → sn [.flt .f64 r, .flt .f64 9218868437227405312] = some (.flt .f64 (r + 1))
theorem ldnx_ok : LdNx sLdexp sNext where
 ld := fun r R b h1 h2 h3 h4 h5 h6 => by
  have := ldexp_at h1 h4 h2 h6
  rw [h3] at this
  rw [this]
  unfold wd
  rw [if_neg (by decide)]
 ldz := fun b h => ldexp_zero ⟨by decide, by decide⟩ h (by decide)
 nx := fun r h => by
  have eW : wd false r = r := by unfold wd; rw [if_neg (by decide)]
  have hF : Fin64 r := by have := fin_wd false h; rwa [eW] at this
  have eI : wd false 9218868437227405312 = 9218868437227405312 := by decide
  have := next_pos h
  rw [eI] at this
  simp only [sNext]
  rw [if_pos ⟨hF, ⟨by decide, by decide⟩⟩, this]
def sBounds : List PVal → Option PVal
 | [.lst xs, .lst ys] => match decN xs, decN ys with
  | some n, some d => if 0 < n ∧ 0 < d ∧ len n ≤ 100 ∧ len d ≤ 100 then some (.tup [.flt .f64 (loR n d), .flt .f64 (upR n d)]) else none
  | _, _ => none
 | _ => none
theorem b_and1 {q : Nat} (h : q < 18446744073709551616) : binI .and .u64 (q : Int) 1 = some (.int .u64 ((q % 2 : Nat) : Int)) := by
 have e : q &&& 1 = q % 2 := Nat.and_one_is_mod q
 simp only [binI]
 show some (PVal.int .u64 (IntKind.u64.wrap (((BitVec.ofInt 64 (q : Int)) &&& (BitVec.ofInt 64 ((1 : Nat) : Int))).toNat : Nat))) = _
 rw [bv_and h (by decide), e, u64_wrap (by omega)]
def hdC : LCode → LCode
 | .seq a _ => a
 | c => c
def tlC : LCode → LCode
 | .seq _ b => b
 | c => c
def bndTail : LCode := tlC (tlC (tlC (tlC (tlC (tlC lf41.body)))))
theorem bnd_body : lf41.body = .seq (hdC lf41.body) (.seq (hdC (tlC lf41.body)) (.seq (hdC (tlC (tlC lf41.body))) (.seq (hdC (tlC (tlC (tlC lf41.body)))) (.seq (hdC (tlC (tlC (tlC (tlC lf41.body))))) (.seq (hdC (tlC (tlC (tlC (tlC (tlC lf41.body)))))) bndTail))))) := rfl
theorem bnd_tail (hx : LdNx sl sn) {n d q : Nat} {b : Int} {ex : Bool} {fr : AFr} {H : Heap} (hd : 0 < d) (hn : 0 < n) (hb : b ≤ 1074) (hb2 : -10000 ≤ b) (hq : q = qt n d b) (hq1 : q < 9007199254740992) (hq2 : b = 1074 ∨ 4503599627370496 ≤ q) (hex : ex = decide (qr n d b = 0))
  (h4 : fr 4 = .p (.flt .f64 0)) (h6 : fr 6 = .p (.int .i64 b)) (h7 : fr 7 = .p (.lst ((limbs q).map u64))) (h9 : fr 9 = .p (.bool ex)) :
  vc (Tbo sl sn) bndTail (endQ (Tbo sl sn) [.slot 4, .slot 5] (.tup [.flt .f64 (loR n d), .flt .f64 (upR n d)])) fr H := by
 obtain ⟨r1, r2⟩ := rung_of hd hb (by rw [← hq]; exact hq1) (by rw [← hq]; exact hq2)
 rw [← hq] at r1
 have hlq : len q ≤ 1 := len_le (by rw [Nat.pow_one, B_lit]; omega)
 have z1 := sSize_num (a := q) (by omega)
 have s1 : size q ≤ 53 := size_le_iff.2 (by rw [show (2 : Nat) ^ 53 = 9007199254740992 by decide]; exact hq1)
 have i1 : sInfW [.int .i64 1] = some (.flt .f64 9218868437227405312) := rfl
 have wI : IntKind.i64.wrap ((size q : Int) - b) = (size q : Int) - b := IntWalk.i64_in _ (by omega)
 by_cases hov : 2046 ≤ pk b
 ·obtain ⟨e1, e2⟩ := r2 hov
  rw [e1, e2]
  have hq3 : 4503599627370496 ≤ q := hq2.resolve_left (fun h => by subst h; unfold pk at hov; omega)
  have s2 : size q = 53 := by
   have := size_eq (n := q) (k := 52) (by rw [p52]; exact hq3) (by rw [show (2 : Nat) ^ (52 + 1) = 9007199254740992 by decide]; exact hq1)
   exact this
  have c1 : (1024 < (size q : Int) - b) = True := by simp; unfold pk at hov; omega
  simp [bndTail, tlC, lf41, h4, h6, h7, h9, z1, i1, wI, c1, wd, Tbo_mu, Tbo_fns]
 ·obtain ⟨e1, e2, e3, e4⟩ := r1 (by omega)
  have c1 : (1024 < (size q : Int) - b) = False := by
   simp
   rcases hq2 with h | h
   ·omega
   ·have s2 : size q = 53 := size_eq (n := q) (k := 52) (by rw [p52]; exact h) (by rw [show (2 : Nat) ^ (52 + 1) = 9007199254740992 by decide]; exact hq1)
    unfold pk at hov; omega
  have nx := hx.nx _ e3
  have hup : upR n d = if ex = true then loR n d else loR n d + 1 := by
   rw [e4, hex]
   by_cases h : qr n d b = 0 <;> simp [h]
  have wN : IntKind.i64.wrap (-b) = -b := IntWalk.i64_in _ (by omega)
  by_cases hq0 : q = 0
  ·have hlo : loR n d = 0 := by
    refine mg_inj ?_
    rw [e2, hq0, Nat.zero_mul, mg_zero]
   have hl0 : limbs q = [] := by rw [hq0, limbs_zero]
   rw [hup, hlo]
   rw [hlo] at nx
   rw [hl0] at h7 z1
   simp only [List.map_nil] at h7 z1
   cases ex <;> simp [bndTail, tlC, lf41, h4, h6, h7, h9, z1, i1, wI, c1, nx, wd, Tbo_mu, Tbo_fns]
  ·obtain ⟨r, g1, g2, g3, g4, g5, g6⟩ := i2f_at (q := q) (by omega) (by omega)
   have hlo := hx.ld r (loR n d) (-b) g3 (by omega) g5 (by omega) e3 (ld_quot e2 e3 g2 g4 hb)
   have hl1 : limbs q = [q] := limbs_small hq0 (by rw [B_lit]; omega)
   rw [hup]
   rw [hl1] at h7 z1
   simp only [List.map_cons, List.map_nil, u64] at h7 z1
   generalize loR n d = L at *
   cases ex <;> simp [bndTail, tlC, lf41, h4, h6, h7, h9, z1, i1, wI, wN, c1, nx, g1, hlo, Tbo_mu, Tbo_fns]
theorem bounds_gen (okl : FnOk Try.prog base 29 (pureS sl)) (okn : FnOk Try.prog base 18 (pureS sn)) (hx : LdNx sl sn) : FnOk Try.prog base 41 (pureS sBounds) := by
 refine pure_of_vc vmix (Tbo_ok okl okn) globNone low41 fun args z hs hf => ?_
 unfold sBounds at hs
 split at hs
 case h_2 => cases hs
 rename_i xs ys
 split at hs
 case h_2 => cases hs
 rename_i n d hxs hys
 split at hs
 case isFalse => cases hs
 rename_i hc
 obtain ⟨hn, hd, ln, ld⟩ := hc
 obtain ⟨rfl, -⟩ := decN_some hxs
 obtain ⟨rfl, -⟩ := decN_some hys
 cases hs
 refine ⟨by simp [lf41], ?_⟩
 have hn0 : n ≠ 0 := by omega
 have hd0 : d ≠ 0 := by omega
 have z1 := sSize_num (a := n) (by omega)
 have z2 := sSize_num (a := d) (by omega)
 have p1 := size_pos hn0
 have p2 := size_pos hd0
 have t1 := size_le hn0
 have t2 := lt_size n
 have t3 := size_le hd0
 have t4 := lt_size d
 have u1 : size n ≤ 6400 := size_le_iff.2 (Nat.lt_of_lt_of_le (lt_len n) (Nat.le_trans (Bpow_le ln) (by have t := pow_mono (p := 64 * 100) (q := 6400) (by omega); rwa [← pow64, ← Nat.pow_mul 2 64 100])))
 have u2 : size d ≤ 6400 := size_le_iff.2 (Nat.lt_of_lt_of_le (lt_len d) (Nat.le_trans (Bpow_le ld) (by have t := pow_mono (p := 64 * 100) (q := 6400) (by omega); rwa [← pow64, ← Nat.pow_mul 2 64 100])))
 obtain ⟨b, hb⟩ : ∃ b : Int, b = min (53 - (((size n - 1 : Nat) : Int) - ((size d - 1 : Nat) : Int))) 1074 := ⟨_, rfl⟩
 obtain ⟨f1, f2, f3, f4⟩ := first_try (n := n) (d := d) (sn := size n - 1) (sd := size d - 1) (b := b) t1 (by rw [show size n - 1 + 1 = size n by omega]; exact t2) t3 (by rw [show size d - 1 + 1 = size d by omega]; exact t4) hb
 have gb : -10000 ≤ b := by omega
 have hbs : (if (1074 : Int) < 53 - ((size n : Int) - (size d : Int)) then 1074 else 53 - ((size n : Int) - (size d : Int))) = b := by
  rw [hb]
  split <;> omega
 have w1 : IntKind.i64.wrap ((size n : Int) - (size d : Int)) = (size n : Int) - (size d : Int) := IntWalk.i64_in _ (by omega)
 have w2 : IntKind.i64.wrap (53 - ((size n : Int) - (size d : Int))) = 53 - ((size n : Int) - (size d : Int)) := IntWalk.i64_in _ (by omega)
 have w3 : IntKind.i64.wrap (-b) = -b := IntWalk.i64_in _ (by omega)
 have w4 : IntKind.i64.wrap (b - 1) = b - 1 := IntWalk.i64_in _ (by omega)
 -- the quotient
 have lp : ∀ m, m ≤ 7000 → len (2 ^ m) ≤ 200 := fun m hm => by
  refine len_le (Nat.lt_of_lt_of_le (Nat.pow_lt_pow_right (by omega) (show m < 64 * 200 by omega)) ?_)
  rw [← pow64, ← Nat.pow_mul]
  exact Nat.le_refl _
 obtain ⟨N, D, hQ1, hQ2, hL⟩ : ∃ N D : Nat, N / D = qt n d b ∧ N % D = qr n d b ∧ (len N ≤ 1000 ∧ len D ≤ 1000 ∧ D ≠ 0) ∧
   ((0 ≤ b ∧ sLeft [.lst ((limbs n).map u64), .int .i64 b] = some (.lst ((limbs N).map u64)) ∧ D = d) ∨ (b < 0 ∧ sLeft [.lst ((limbs d).map u64), .int .i64 (-b)] = some (.lst ((limbs D).map u64)) ∧ N = n)) := by
  by_cases h0 : 0 ≤ b
  ·obtain ⟨B0, hB0⟩ : ∃ B0 : Nat, b = B0 := ⟨b.toNat, by omega⟩
   refine ⟨n * 2 ^ B0, d, ?_, ?_, ⟨?_, by omega, hd0⟩, .inl ⟨h0, ?_, rfl⟩⟩
   ·unfold qt; rw [if_pos h0, hB0]; rfl
   ·unfold qr; rw [if_pos h0, hB0]; rfl
   ·have := len_mul n (2 ^ B0)
    have := lp B0 (by omega)
    omega
   ·rw [hB0]; exact sLeft_num (by omega) (by omega)
  ·obtain ⟨B0, hB0⟩ : ∃ B0 : Nat, -b = B0 := ⟨(-b).toNat, by omega⟩
   refine ⟨n, d * 2 ^ B0, ?_, ?_, ⟨by omega, ?_, ?_⟩, .inr ⟨by omega, ?_, rfl⟩⟩
   ·unfold qt; rw [if_neg h0, hB0]; rfl
   ·unfold qr; rw [if_neg h0, hB0]; rfl
   ·have := len_mul d (2 ^ B0)
    have := lp B0 (by omega)
    omega
   ·exact Nat.mul_ne_zero hd0 (by have := two_pos B0; omega)
   ·rw [hB0]; exact sLeft_num (by omega) (by omega)
 obtain ⟨⟨l1, l2, l3⟩, hL⟩ := hL
 have hQ := sQuot_num (a := N) (b := D) (by omega) (by omega) l3
 rw [hQ1, hQ2] at hQ
 have hlq : len (qt n d b) ≤ 1 := len_le (by rw [Nat.pow_one, B_lit]; omega)
 have zq := sSize_num (a := qt n d b) (by omega)
 have hlr : len (qr n d b) ≤ 1000 := by
  rw [← hQ2]
  refine Nat.le_trans (len_mono (Nat.le_of_lt (Nat.mod_lt _ (by omega)))) l2
 have hz : (((limbs (qr n d b)).length : Int) == 0) = decide (qr n d b = 0) := by
  have h1 : (limbs (qr n d b)).length = 0 ↔ qr n d b = 0 := len_eq_zero
  by_cases h : qr n d b = 0
  ·rw [decide_eq_true h]
   have := h1.2 h
   rw [this]; rfl
  ·rw [decide_eq_false h]
   have : (limbs (qr n d b)).length ≠ 0 := fun e => h (h1.1 e)
   simpa using this
 rw [bnd_body]
 by_cases hbig : qt n d b < 9007199254740992
 ·have s1 : size (qt n d b) ≤ 53 := size_le_iff.2 (by rw [show (2 : Nat) ^ 53 = 9007199254740992 by decide]; exact hbig)
  have c1 : (53 < ((size (qt n d b) : Nat) : Int)) = False := by simp; omega
  have tl := fun fr H => @bnd_tail sl sn hx n d (qt n d b) b (decide (qr n d b = 0)) fr H hd hn f1 gb rfl hbig f3 rfl
  generalize loR n d = LO at *
  generalize upR n d = UP at *
  generalize qt n d b = Q at *
  generalize qr n d b = R at *
  rcases hL with ⟨h0, hL, rfl⟩ | ⟨h0, hL, rfl⟩
  ·have h0' : (0 ≤ b) = True := by simp; omega
   simp [hdC, tlC, lf41, z1, z2, w1, w2, hbs, h0', hL, hQ, zq, hz, c1, Tbo_mu, Tbo_fns]
   exact tl _ _ (by simp) (by simp) (by simp) (by simp)
  ·have h0' : (0 ≤ b) = False := by simp; omega
   simp [hdC, tlC, lf41, z1, z2, w1, w2, w3, hbs, h0', hL, hQ, zq, hz, c1, Tbo_mu, Tbo_fns]
   exact tl _ _ (by simp) (by simp) (by simp) (by simp)
 ·have s1 : 53 < size (qt n d b) := by
   refine Decidable.byContradiction fun h => ?_
   have := (size_le_iff (n := qt n d b) (k := 53)).1 (by omega)
   rw [show (2 : Nat) ^ 53 = 9007199254740992 by decide] at this
   omega
  have c1 : (53 < ((size (qt n d b) : Nat) : Int)) = True := by simp; omega
  have hh := qt_half (n := n) (d := d) f1
  have hr := qr_half (n := n) (d := d) hd f1
  have tl := fun ex fr H => @bnd_tail sl sn hx n d (qt n d (b - 1)) (b - 1) ex fr H hd hn (by omega) (by omega) rfl (by rw [hh]; omega) (.inr (by rw [hh]; omega))
  have hR1 := sRight_num (a := qt n d b) (n := 1) (by omega) (by omega)
  rw [Nat.pow_one, ← hh, show ((1 : Nat) : Int) = 1 from rfl] at hR1
  have hl1 : limbs (qt n d b) = [qt n d b] := limbs_small (by omega) (by rw [B_lit]; omega)
  have ha1 := b_and1 (q := qt n d b) (by omega)
  have hex : decide (qr n d (b - 1) = 0) = (decide (qr n d b = 0) && decide (qt n d b % 2 = 0)) := by
   rw [Bool.eq_iff_iff]; simp [hr]
  have he2 : (((qt n d b % 2 : Nat) : Int) == 0) = decide (qt n d b % 2 = 0) := by
   by_cases h : qt n d b % 2 = 0
   ·rw [h]; rfl
   ·rw [decide_eq_false h]; simp; omega
  rw [hex] at tl
  rw [hl1] at hQ zq hR1
  simp only [List.map_cons, List.map_nil, u64] at hQ zq hR1
  generalize loR n d = LO at *
  generalize upR n d = UP at *
  generalize qt n d (b - 1) = Q1 at *
  generalize decide (qr n d b = 0) = E1 at *
  generalize ((qt n d b % 2 : Nat) : Int) = M at *
  generalize decide (qt n d b % 2 = 0) = E2 at *
  generalize ((size (qt n d b) : Nat) : Int) = SQ at *
  generalize qt n d b = Q at *
  generalize qr n d b = R at *
  rcases hL with ⟨h0, hL, rfl⟩ | ⟨h0, hL, rfl⟩
  ·have h0' : (0 ≤ b) = True := by simp; omega
   cases E1 <;> simp [hdC, tlC, lf41, -binI, b_add, b_sub, b_lss, b_gtr, b_geq, b_eql, z1, z2, w1, w2, w4, hbs, h0', hL, hQ, zq, hz, c1, hR1, ha1, he2, Tbo_mu, Tbo_fns]
   ·refine tl _ _ _ rfl ?_ ?_ ?_ ?_ <;> simp
   ·refine tl _ _ _ rfl ?_ ?_ ?_ ?_ <;> simp
  ·have h0' : (0 ≤ b) = False := by simp; omega
   cases E1 <;> simp [hdC, tlC, lf41, -binI, b_add, b_sub, b_lss, b_gtr, b_geq, b_eql, z1, z2, w1, w2, w3, w4, hbs, h0', hL, hQ, zq, hz, c1, hR1, ha1, he2, Tbo_mu, Tbo_fns]
   ·refine tl _ _ _ rfl ?_ ?_ ?_ ?_ <;> simp
   ·refine tl _ _ _ rfl ?_ ?_ ?_ ?_ <;> simp
theorem bounds_ok : FnOk Try.prog base 41 (pureS sBounds) := bounds_gen ldexp_ok next_ok ldnx_ok
end Go.Proofs.Ytbdccebpehogjaa
