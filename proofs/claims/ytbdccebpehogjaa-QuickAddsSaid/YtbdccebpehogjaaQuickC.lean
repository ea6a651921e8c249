/-
  What quick.Of and the reference's bound compute. AcvNo conditions beyond the lemmas' own hypotheses.
-/
import Derived.Test.YtbdccebpehogjaaQuickB
import Derived.Test.YtbdccebpehogjaaRatB
import Derived.Test.YtbdccebpehogjaaRatE
import Derived.Test.YtbdccebpehogjaaRefA
set_option linter.unusedSimpArgs false
set_option linter.unnecessarySimpa false
set_option linter.unusedVariables false
set_option linter.constructorNameAsVariable false

/-
 What quick.Of and the reference's under, over and Quick compute: the floats next to a fraction.
-/
namespace Go.Flo
theorem wk_nat (n : Nat) : wk (n : Int) = n := by
 unfold wk wd
 rw [decide_eq_false (by omega), if_neg (by decide), Int.natAbs_natCast]
theorem wk_negn {n : Nat} (h : 0 < n) : wk (-(n : Int)) = wd true n := by
 unfold wk
 rw [decide_eq_true (by omega), Int.natAbs_neg, Int.natAbs_natCast]
theorem wk_zero : wk 0 = 0 := by decide
theorem zero_sub {r : Nat} (h : r ≤ 9218868437227405312) : Ieee.double.sub 0 r = some (wk (-(r : Int))) := by
 have e : wd false r = r := by unfold wd; rw [if_neg (by decide)]
 by_cases hi : r = 9218868437227405312
 ·subst hi
  have h0 : Ieee.double.read 0 = .number false 0 (-1074) := by decide
  have h1 := read_inf false
  rw [show wd false 9218868437227405312 = 9218868437227405312 by decide] at h1
  unfold Ieee.Format.sub
  rw [h0, h1, wk_negn (by decide)]
  simp only [Ieee.Datum.opposite, Ieee.Datum.sum, Option.map_some, Ieee.Format.write, d_inf, d_word]
  rfl
 ·have hr : r < 9218868437227405312 := by omega
  have hf : Fin64 r := by have := fin_wd false hr; rwa [e] at this
  have hs : sg r = false := by have := sg_wd false (r := r) (by omega); rwa [e] at this
  have hv : sv r = mg r := by have := sv_wd false (r := r) (by omega); rw [e] at this; simpa using this
  have h0 : Fin64 0 := ⟨by decide, by decide⟩
  have hv0 : sv 0 = 0 := by decide
  have hs0 : sg 0 = false := by decide
  rw [sub_fin h0 hf, hv, hv0, hs0, hs]
  unfold rw64
  by_cases hz : r = 0
  ·subst hz; rw [mg_zero]; decide
  ·have hp := mg_pos (r := r) (by omega)
   rw [if_neg (by omega), wk_negn (by omega), decide_eq_true (by omega)]
   have e2 : (0 - (mg r : Int)).natAbs = mg r := by omega
   rw [e2, rn_mg, Nat.min_eq_left (by omega)]
end Go.Flo
namespace Go.Proofs.Ytbdccebpehogjaa
open Go Go.Abs Go.Flo Go.Limbs
variable {base : Prot}
set_option maxRecDepth 20000
attribute [local irreducible] vc
attribute [local simp] pureS touchV freezeL fuel shiftV u64 au
theorem f_zsub {r : Nat} (h : r ≤ 9218868437227405312) : binF .sub .f64 0 r = some (.flt .f64 (wk (-(r : Int)))) := by
 simp only [binF, fmt64, zero_sub h, Option.map_some]
def boundF (x : Fr) : PVal := if x.ok = true then .cpx .f64 (wk (kLo x.q)) (wk (kHi x.q)) else .cpx .f64 0 0
theorem boundF_num {q : Rat} (h : Sm 64 q) : boundF (ofQ q) = .cpx .f64 (wk (kLo q)) (wk (kHi q)) := by
 unfold boundF
 rw [ok_ofQ h, if_pos rfl, q_ofQ]
def Tvo (ss sb : List PVal → Option PVal) : Tab := (Tab.none.with 40 (pureS ss)).with 41 (pureS sb)
variable {ss sb : List PVal → Option PVal}
theorem Tvo_ok (oks : FnOk Try.prog base 40 (pureS ss)) (okb : FnOk Try.prog base 41 (pureS sb)) : TabOk Try.prog base (Tvo ss sb) := Tab.with_ok (Tab.with_ok Tab.none_ok oks) okb
theorem Tvo_mu (f : FuncId) (a : List AVal) (H : Heap) : (Tvo ss sb).mu f a H = none := (rfl)
theorem Tvo_fns : (Tvo ss sb).fn 40 = pureS ss ∧ (Tvo ss sb).fn 41 = pureS sb := ⟨rfl, rfl⟩
theorem sBounds_num {n d : Nat} (hn : 0 < n) (hd : 0 < d) (ln : len n ≤ 100) (ld : len d ≤ 100) : sBounds [.lst ((limbs n).map u64), .lst ((limbs d).map u64)] = some (.tup [.flt .f64 (loR n d), .flt .f64 (upR n d)]) := by
 simp only [sBounds, decN_num (show len n ≤ 100000 by omega), decN_num (show len d ≤ 100000 by omega)]
 exact if_pos ⟨hn, hd, ln, ld⟩
theorem of_walk {s : Bool} {xs ys : List PVal} {C : Int} {LO UP W1 W2 : Nat} (v1 : ss [.agg [.bool s, .lst xs, .lst ys]] = some (.int .i64 C)) :
  (C = 0 → vc (Tvo ss sb) lf13.body (endQ (Tvo ss sb) lf13.results (.cpx .f64 0 0)) (initFr [.p (.agg [.bool s, .lst xs, .lst ys])]) []) ∧
  ((C == 0) = false → sb [.lst xs, .lst ys] = some (.tup [.flt .f64 LO, .flt .f64 UP]) → binF .sub .f64 0 UP = some (.flt .f64 W1) → binF .sub .f64 0 LO = some (.flt .f64 W2) →
   vc (Tvo ss sb) lf13.body (endQ (Tvo ss sb) lf13.results (if s = true then .cpx .f64 W1 W2 else .cpx .f64 LO UP)) (initFr [.p (.agg [.bool s, .lst xs, .lst ys])]) []) := by
 refine ⟨fun hc => ?_, fun hc v2 s1 s2 => ?_⟩
 ·subst hc
  simp [lf13, v1, Tvo_mu, Tvo_fns]
 ·cases s <;> simp [lf13, v1, hc, v2, s1, s2, Tvo_mu, Tvo_fns]
theorem of5_ok : FnOk Try.prog base 13 (pureS (f1 boundF)) := by
 refine pure_of_vc vmix (Tvo_ok qsign_ok bounds_ok) globNone low13 fun args z hs hf => ?_
 obtain ⟨x, wx, rfl, rfl⟩ := f1_some hs
 refine ⟨by simp [lf13], ?_⟩
 have v1 : f1 signP [x.enc] = some (.int .i64 (signF x)) := f1_at wx
 unfold boundF
 cases ox : x.ok with
 | false =>
  have hsg : signF x = 0 := by unfold signF; rw [ox]; rfl
  rw [hsg] at v1
  rw [if_neg (by decide)]
  simp only [Fr.enc] at v1 ⊢
  exact (of_walk (LO := 0) (UP := 0) (W1 := 0) (W2 := 0) v1).1 rfl
 | true =>
  rw [if_pos rfl]
  obtain ⟨q, hq, rfl⟩ := Fr.ok_of ox
  rw [signF_num hq] at v1
  rw [q_ofQ]
  have hb := @upR_bd q.num.natAbs q.den
  have hl := @loR_bd q.num.natAbs q.den
  by_cases h0 : q = 0
  ·subst h0
   have e : cmpQ 0 0 = 0 := cmpQ_eq 0
   have e1 : kLo 0 = 0 := by
    unfold kLo
    rw [if_neg (by decide)]
    show ((loR 0 _ : Nat) : Int) = 0
    rw [lo_zero]; rfl
   have e2 : kHi 0 = 0 := by
    unfold kHi
    rw [if_neg (by decide)]
    show ((upR 0 _ : Nat) : Int) = 0
    rw [up_zero]; rfl
   rw [e] at v1
   rw [e1, e2, wk_zero]
   simp only [Fr.enc] at v1 ⊢
   exact (of_walk (LO := 0) (UP := 0) (W1 := 0) (W2 := 0) v1).1 rfl
  ·have hn0 : q.num ≠ 0 := fun h => h0 (Rat.num_eq_zero.1 h)
   have hc : (cmpQ q 0 == 0) = false := by
    have : cmpQ q 0 ≠ 0 := fun h => h0 (cmpQ_zero_iff.1 h)
    simpa using this
   have hd := q.den_pos
   have v2 := sBounds_num (n := q.num.natAbs) (d := q.den) (by omega) hd (by have := hq.1; omega) (by have := hq.2; omega)
   rw [enc_ofQ] at v1 ⊢
   have s1 := f_zsub hb
   have s2 := f_zsub (r := loR q.num.natAbs q.den) (by omega)
   have key := (of_walk v1).2 hc v2 s1 s2
   have e : (if (decide (q.num < 0)) = true then PVal.cpx .f64 (wk (-((upR q.num.natAbs q.den : Nat) : Int))) (wk (-((loR q.num.natAbs q.den : Nat) : Int))) else .cpx .f64 (loR q.num.natAbs q.den) (upR q.num.natAbs q.den)) = .cpx .f64 (wk (kLo q)) (wk (kHi q)) := by
    unfold kLo kHi
    by_cases hs : q.num < 0
    ·rw [if_pos hs, if_pos hs, decide_eq_true hs, if_pos rfl]
    ·rw [if_neg hs, if_neg hs, decide_eq_false hs, if_neg (by decide), wk_nat, wk_nat]
   rw [e] at key
   exact key
end Go.Proofs.Ytbdccebpehogjaa

/-
 What the reference's under, over and Quick compute: the floats next to a fraction.
-/
namespace Go.Proofs.Ytbdccebpehogjaa
open Go Go.Abs Go.Flo Go.Limbs
variable {base : Prot}
set_option maxRecDepth 20000
attribute [local irreducible] vc
attribute [local simp] pureS touchV freezeL fuel shiftV u64 au
def Tun (sz sh sq sl : List PVal → Option PVal) : Tab := (((Tab.none.with 75 (pureS sz)).with 38 (pureS sh)).with 69 (pureS sq)).with 29 (pureS sl)
variable {sz sh sq sl sn : List PVal → Option PVal}
theorem Tun_ok (okz : FnOk Try.prog base 75 (pureS sz)) (okh : FnOk Try.prog base 38 (pureS sh)) (okq : FnOk Try.prog base 69 (pureS sq)) (okl : FnOk Try.prog base 29 (pureS sl)) : TabOk Try.prog base (Tun sz sh sq sl) := Tab.with_ok (Tab.with_ok (Tab.with_ok (Tab.with_ok Tab.none_ok okz) okh) okq) okl
theorem Tun_mu (f : FuncId) (a : List AVal) (H : Heap) : (Tun sz sh sq sl).mu f a H = none := (rfl)
theorem Tun_fns : (Tun sz sh sq sl).fn 75 = pureS sz ∧ (Tun sz sh sq sl).fn 38 = pureS sh ∧ (Tun sz sh sq sl).fn 69 = pureS sq ∧ (Tun sz sh sq sl).fn 29 = pureS sl := ⟨rfl, rfl, rfl, rfl⟩
structure Try5 (sz sh sq : List PVal → Option PVal) (n d : Nat) (e : Int) (N D Q R : Nat) : Prop where
 pos : 0 < e → N = n ∧ sh [.lst ((limbs d).map u64), .int .i64 e] = some (.lst ((limbs D).map u64))
 neg : ¬ 0 < e → D = d ∧ sh [.lst ((limbs n).map u64), .int .i64 (-e)] = some (.lst ((limbs N).map u64))
 quo : sq [.lst ((limbs N).map u64), .lst ((limbs D).map u64)] = some (.tup [.lst ((limbs Q).map u64), .lst ((limbs R).map u64)])
 siz : sz [.lst ((limbs Q).map u64)] = some (.int .i64 (size Q))
theorem un_walk {s : Bool} {n d : Nat} {sn sd : Int} {e e2 : Int} {N D Q R N2 D2 Q2 R2 : Nat} {L fq : Nat} {over : Bool} (hn : 0 < n)
  (z1 : sz [.lst ((limbs n).map u64)] = some (.int .i64 sn)) (z2 : sz [.lst ((limbs d).map u64)] = some (.int .i64 sd))
  (w1 : IntKind.i64.wrap (sn - sd) = sn - sd) (w2 : IntKind.i64.wrap (sn - sd - 53) = sn - sd - 53) (he : (if sn - sd - 53 < -1074 then -1074 else sn - sd - 53) = e) (hb : -20000 ≤ e ∧ e ≤ 20000)
  (t1 : Try5 sz sh sq n d e N D Q R) (t2 : 53 < size Q → Try5 sz sh sq n d (e + 1) N2 D2 Q2 R2 ∧ size Q2 ≤ 53)
  (h2 : e2 = if 53 < size Q then e + 1 else e) (hov : over = decide (1024 < ((if 53 < size Q then size Q2 else size Q : Nat) : Int) + e2)) (hsz : size Q ≤ 5000)
  (hq : (if 53 < size Q then Q2 else Q) < 18446744073709551616) (hfq : FloatKind.f64.nearest (((if 53 < size Q then Q2 else Q) : Nat) : Int) = fq) (hfz : (if 53 < size Q then Q2 else Q) = 0 → fq = 0)
  (hl : over = false → sl [.flt .f64 fq, .int .i64 e2] = some (.flt .f64 L)) :
  vc (Tun sz sh sq sl) lf42.body (endQ (Tun sz sh sq sl) lf42.results (if over = true then .tup [.flt .f64 9218868437227405311, .bool false] else .tup [.flt .f64 L, .bool (((limbs (if 53 < size Q then R2 else R)).length : Int) == 0)])) (initFr [.p (.agg [.bool s, .lst ((limbs n).map u64), .lst ((limbs d).map u64)])]) [] := by
 have hl0 : (((limbs n).length : Int) == 0) = false := by
  have : len n ≠ 0 := fun h => by have := len_eq_zero.1 h; omega
  have : (limbs n).length ≠ 0 := this
  simpa using this
 simp [lf42, z1, z2, w1, w2, he, hl0, Tun_mu, Tun_fns]
 simp only [lf42_B0, vc_block]
 refine loop_ind (fun fr H => (fr 4 = .p (.int .i64 e) ∨ (53 < size Q ∧ fr 4 = .p (.int .i64 (e + 1)))) ∧ fr 1 = .optr 0 0 0 0 ∧ fr 2 = .p (.flt .f64 0) ∧ H[0]? = some ⟨3, 0, false, [.p (.agg [.bool s, .lst ((limbs n).map u64), .lst ((limbs d).map u64)])], 24⟩)
  (fun fr _ => (e + 2 - (match fr 4 with | .p (.int _ k) => k | _ => 0)).toNat) ⟨.inl (by simp), by simp, by simp, by simp⟩ ?_
 rintro fr H ⟨f4, f1, f2, g0⟩
 have wn1 : IntKind.i64.wrap (-e) = -e := IntWalk.i64_in _ (by omega)
 have wn2 : IntKind.i64.wrap (-(e + 1)) = -(e + 1) := IntWalk.i64_in _ (by omega)
 have wp1 : IntKind.i64.wrap (e + 1) = e + 1 := IntWalk.i64_in _ (by omega)
 rcases f4 with f4 | ⟨hbig, f4⟩
 ·by_cases hbig : 53 < size Q
  ·have c53 : (((size Q : Nat) : Int) ≤ 53) = False := by simp; omega
   have zq := t1.siz
   have hq' := t1.quo
   by_cases hp : 0 < e
   ·obtain ⟨rfl, hsh⟩ := t1.pos hp
    have hpT : (0 < e) = True := by simp; omega
    simp [f4, f1, f2, g0, hpT, hsh, hq', zq, c53, wp1, Tun_mu, Tun_fns]
    refine ⟨.inr hbig, ?_⟩
    rw [show e + 2 - (e + 1) = (1 : Int) by omega, show max (1 : Int) 0 = 1 from rfl]
    omega
   ·obtain ⟨rfl, hsh⟩ := t1.neg hp
    have hpF : (0 < e) = False := by simp; omega
    simp [f4, f1, f2, g0, hpF, wn1, hsh, hq', zq, c53, wp1, Tun_mu, Tun_fns]
    refine ⟨.inr hbig, ?_⟩
    rw [show e + 2 - (e + 1) = (1 : Int) by omega, show max (1 : Int) 0 = 1 from rfl]
    omega
  ·rw [if_neg hbig] at h2 hov hq hfq hfz ⊢
   subst h2
   have c53 : (((size Q : Nat) : Int) ≤ 53) = True := by simp; omega
   have hwe : IntKind.i64.wrap (((size Q : Nat) : Int) + (e2)) = ((size Q : Nat) : Int) + (e2) := IntWalk.i64_in _ (by omega)
   have zq := t1.siz
   have hq' := t1.quo
   cases over with
   | true =>
    have c1 : (1024 < ((size Q : Nat) : Int) + (e2)) = True := by have := of_decide_eq_true hov.symm; simpa using this
    by_cases hp : 0 < e2
    ·obtain ⟨rfl, hsh⟩ := t1.pos hp
     have hpT : (0 < e2) = True := by simp; omega
     simp [f4, f1, f2, g0, hpT, hsh, hq', zq, c53, hwe, c1, Tun_mu, Tun_fns]
    ·obtain ⟨rfl, hsh⟩ := t1.neg hp
     have hpF : (0 < e2) = False := by simp; omega
     simp [f4, f1, f2, g0, hpF, wn1, hsh, hq', zq, c53, hwe, c1, Tun_mu, Tun_fns]
   | false =>
    have c1 : (1024 < ((size Q : Nat) : Int) + (e2)) = False := by have := of_decide_eq_false hov.symm; simpa using this
    have hl := hl rfl
    by_cases hq0 : Q = 0
    ·have hfq0 := hfz hq0
     rw [hfq0] at hfq hl
     rw [hq0] at hfq
     have hlq : limbs Q = [] := by rw [hq0, limbs_zero]
     rw [hlq] at zq hq'
     simp only [List.map_nil] at zq hq'
     simp only [show ((0 : Nat) : Int) = 0 from rfl] at hfq
     by_cases hp : 0 < e2
     ·obtain ⟨rfl, hsh⟩ := t1.pos hp
      have hpT : (0 < e2) = True := by simp; omega
      simp [f4, f1, f2, g0, hpT, hsh, hq', zq, c53, hwe, c1, hfq, hl, Tun_mu, Tun_fns]
     ·obtain ⟨rfl, hsh⟩ := t1.neg hp
      have hpF : (0 < e2) = False := by simp; omega
      simp [f4, f1, f2, g0, hpF, wn1, hsh, hq', zq, c53, hwe, c1, hfq, hl, Tun_mu, Tun_fns]
    ·have hlq : limbs Q = [Q] := limbs_small hq0 (by rw [B_lit]; exact hq)
     rw [hlq] at zq hq'
     simp only [List.map_cons, List.map_nil, u64] at zq hq'
     by_cases hp : 0 < e2
     ·obtain ⟨rfl, hsh⟩ := t1.pos hp
      have hpT : (0 < e2) = True := by simp; omega
      simp [f4, f1, f2, g0, hpT, hsh, hq', zq, c53, hwe, c1, hfq, hl, Tun_mu, Tun_fns]
     ·obtain ⟨rfl, hsh⟩ := t1.neg hp
      have hpF : (0 < e2) = False := by simp; omega
      simp [f4, f1, f2, g0, hpF, wn1, hsh, hq', zq, c53, hwe, c1, hfq, hl, Tun_mu, Tun_fns]
 ·obtain ⟨t3, hs2⟩ := t2 hbig
  rw [if_pos hbig] at h2 hov hq hfq hfz ⊢
  subst h2
  have c53 : (((size Q2 : Nat) : Int) ≤ 53) = True := by simp; omega
  have hwe : IntKind.i64.wrap (((size Q2 : Nat) : Int) + (e + 1)) = ((size Q2 : Nat) : Int) + (e + 1) := IntWalk.i64_in _ (by omega)
  have zq := t3.siz
  have hq' := t3.quo
  cases over with
  | true =>
   have c1 : (1024 < ((size Q2 : Nat) : Int) + (e + 1)) = True := by have := of_decide_eq_true hov.symm; simpa using this
   by_cases hp : 0 < e + 1
   ·obtain ⟨rfl, hsh⟩ := t3.pos hp
    have hpT : (0 < e + 1) = True := by simp; omega
    simp [f4, f1, f2, g0, hpT, hsh, hq', zq, c53, hwe, c1, Tun_mu, Tun_fns]
   ·obtain ⟨rfl, hsh⟩ := t3.neg hp
    have hpF : (0 < e + 1) = False := by simp; omega
    simp [f4, f1, f2, g0, hpF, wn2, hsh, hq', zq, c53, hwe, c1, Tun_mu, Tun_fns]
  | false =>
   have c1 : (1024 < ((size Q2 : Nat) : Int) + (e + 1)) = False := by have := of_decide_eq_false hov.symm; simpa using this
   have hl := hl rfl
   by_cases hq0 : Q2 = 0
   ·have hfq0 := hfz hq0
    rw [hfq0] at hfq hl
    rw [hq0] at hfq
    have hlq : limbs Q2 = [] := by rw [hq0, limbs_zero]
    rw [hlq] at zq hq'
    simp only [List.map_nil] at zq hq'
    simp only [show ((0 : Nat) : Int) = 0 from rfl] at hfq
    by_cases hp : 0 < e + 1
    ·obtain ⟨rfl, hsh⟩ := t3.pos hp
     have hpT : (0 < e + 1) = True := by simp; omega
     simp [f4, f1, f2, g0, hpT, hsh, hq', zq, c53, hwe, c1, hfq, hl, Tun_mu, Tun_fns]
    ·obtain ⟨rfl, hsh⟩ := t3.neg hp
     have hpF : (0 < e + 1) = False := by simp; omega
     simp [f4, f1, f2, g0, hpF, wn2, hsh, hq', zq, c53, hwe, c1, hfq, hl, Tun_mu, Tun_fns]
   ·have hlq : limbs Q2 = [Q2] := limbs_small hq0 (by rw [B_lit]; exact hq)
    rw [hlq] at zq hq'
    simp only [List.map_cons, List.map_nil, u64] at zq hq'
    by_cases hp : 0 < e + 1
    ·obtain ⟨rfl, hsh⟩ := t3.pos hp
     have hpT : (0 < e + 1) = True := by simp; omega
     simp [f4, f1, f2, g0, hpT, hsh, hq', zq, c53, hwe, c1, hfq, hl, Tun_mu, Tun_fns]
    ·obtain ⟨rfl, hsh⟩ := t3.neg hp
     have hpF : (0 < e + 1) = False := by simp; omega
     simp [f4, f1, f2, g0, hpF, wn2, hsh, hq', zq, c53, hwe, c1, hfq, hl, Tun_mu, Tun_fns]
def exB (n d : Nat) : Bool := decide (mg (loR n d) * d = n * sc)
theorem upR_ex (n d : Nat) : upR n d = if exB n d = true then loR n d else loR n d + 1 := by
 unfold upR exB
 by_cases h : mg (loR n d) * d = n * sc
 ·rw [if_pos h, decide_eq_true h, if_pos rfl]
 ·rw [if_neg h, decide_eq_false h, if_neg (by decide)]
def sUnder : List PVal → Option PVal
 | [.agg [.bool _, .lst xs, .lst ys]] => match decN xs, decN ys with
  | some n, some d => if 0 < d ∧ len n ≤ 100 ∧ len d ≤ 100 then some (.tup [.flt .f64 (loR n d), .bool (exB n d)]) else none
  | _, _ => none
 | _ => none
theorem try_of {n d : Nat} {b : Int} (hb : -10000 ≤ b ∧ b ≤ 1074) (hd : 0 < d) (ln : len n ≤ 100) (ld : len d ≤ 100) (hq : qt n d b < 18446744073709551616) : ∃ N D : Nat, Try5 sSize sRShift sQuotR n d (-b) N D (qt n d b) (qr n d b) := by
 have lp : ∀ m, m ≤ 11000 → len (2 ^ m) ≤ 200 := fun m hm => by
  refine len_le (Nat.lt_of_lt_of_le (Nat.pow_lt_pow_right (by omega) (show m < 64 * 200 by omega)) ?_)
  rw [← pow64, ← Nat.pow_mul]
  exact Nat.le_refl _
 have hlq : len (qt n d b) ≤ 1 := len_le (by rw [Nat.pow_one, B_lit]; exact hq)
 have zq := sSize_num (a := qt n d b) (by omega)
 by_cases h0 : 0 ≤ b
 ·obtain ⟨B0, hB0⟩ : ∃ B0 : Nat, b = B0 := ⟨b.toNat, by omega⟩
  have e1 : n * 2 ^ B0 / d = qt n d b := by unfold qt; rw [if_pos h0, hB0]; rfl
  have e2 : n * 2 ^ B0 % d = qr n d b := by unfold qr; rw [if_pos h0, hB0]; rfl
  have l1 := len_mul n (2 ^ B0)
  have l2 := lp B0 (by omega)
  refine ⟨n * 2 ^ B0, d, fun h => absurd h (by omega), fun _ => ⟨rfl, ?_⟩, ?_, zq⟩
  ·rw [show (- -b) = (B0 : Int) by omega]; exact sRShift_up (by omega) (by omega)
  ·have := sQuotR_num (a := n * 2 ^ B0) (b := d) (by omega) (by omega) (by omega)
   rwa [e1, e2] at this
 ·obtain ⟨B0, hB0⟩ : ∃ B0 : Nat, -b = B0 := ⟨(-b).toNat, by omega⟩
  have e1 : n / (d * 2 ^ B0) = qt n d b := by unfold qt; rw [if_neg h0, hB0]; rfl
  have e2 : n % (d * 2 ^ B0) = qr n d b := by unfold qr; rw [if_neg h0, hB0]; rfl
  have l1 := len_mul d (2 ^ B0)
  have l2 := lp B0 (by omega)
  have l3 : d * 2 ^ B0 ≠ 0 := Nat.mul_ne_zero (by omega) (by have := two_pos B0; omega)
  refine ⟨n, d * 2 ^ B0, fun _ => ⟨rfl, ?_⟩, fun h => absurd (by omega) h, ?_, zq⟩
  ·rw [hB0]; exact sRShift_up (by omega) (by omega)
  ·have := sQuotR_num (a := n) (b := d * 2 ^ B0) (by omega) (by omega) l3
   rwa [e1, e2] at this
end Go.Proofs.Ytbdccebpehogjaa

/-
 The reference's under, over and Quick: their contracts.
-/
namespace Go.Proofs.Ytbdccebpehogjaa
open Go Go.Abs Go.Flo Go.Limbs
variable {base : Prot}
set_option maxRecDepth 20000
attribute [local irreducible] vc
attribute [local simp] pureS touchV freezeL fuel shiftV u64 au
theorem near0 : FloatKind.f64.nearest 0 = 0 := by decide
theorem un_zero {s : Bool} {ys : List PVal} {sz sh sq sl : List PVal → Option PVal} : vc (Tun sz sh sq sl) lf42.body (endQ (Tun sz sh sq sl) lf42.results (.tup [.flt .f64 0, .bool true])) (initFr [.p (.agg [.bool s, .lst [], .lst ys])]) [] := by
 simp [lf42, Tun_mu, Tun_fns]
theorem fin_place {n d : Nat} {b : Int} (hd : 0 < d) (hb : b ≤ 1074) (hq : qt n d b < 9007199254740992) (hk : b = 1074 ∨ 4503599627370496 ≤ qt n d b) :
  (if decide (1024 < ((size (qt n d b) : Nat) : Int) + -b) = true then PVal.tup [.flt .f64 9218868437227405311, .bool false] else .tup [.flt .f64 (loR n d), .bool (((limbs (qr n d b)).length : Int) == 0)]) = .tup [.flt .f64 (loR n d), .bool (exB n d)] ∧
  (decide (1024 < ((size (qt n d b) : Nat) : Int) + -b) = false → mg (loR n d) = qt n d b * 2 ^ pk b ∧ loR n d < 9218868437227405312) := by
 obtain ⟨r1, r2⟩ := rung_of hd hb hq hk
 have s1 : size (qt n d b) ≤ 53 := size_le_iff.2 (by rw [show (2 : Nat) ^ 53 = 9007199254740992 by decide]; exact hq)
 have s2 : 4503599627370496 ≤ qt n d b → size (qt n d b) = 53 := fun h => size_eq (k := 52) (by rw [p52]; exact h) (by rw [show (2 : Nat) ^ (52 + 1) = 9007199254740992 by decide]; exact hq)
 by_cases hov : 2046 ≤ pk b
 ·obtain ⟨e1, e2⟩ := r2 hov
  have h3 := s2 (hk.resolve_left (fun h => by subst h; unfold pk at hov; omega))
  have h4 : decide (1024 < ((size (qt n d b) : Nat) : Int) + -b) = true := decide_eq_true (by unfold pk at hov; omega)
  rw [h4, if_pos rfl]
  refine ⟨?_, fun h => by cases h⟩
  have he : exB n d = false := by
   have := upR_ex n d
   rw [e1, e2] at this
   cases h : exB n d with
   | false => rfl
   | true => rw [h] at this; simp at this
  rw [e1, he]
 ·obtain ⟨e1, e2, e3, e4⟩ := r1 (by omega)
  have h4 : decide (1024 < ((size (qt n d b) : Nat) : Int) + -b) = false := by
   refine decide_eq_false ?_
   rcases hk with h | h
   ·omega
   ·have := s2 h
    unfold pk at hov; omega
  rw [h4, if_neg (by decide)]
  refine ⟨?_, fun _ => ⟨e2, e3⟩⟩
  have he : (((limbs (qr n d b)).length : Int) == 0) = exB n d := by
   have h1 : (limbs (qr n d b)).length = 0 ↔ qr n d b = 0 := len_eq_zero
   unfold exB
   rw [e2]
   have h2 := qr_is (n := n) (d := d) hb
   rw [Bool.eq_iff_iff]
   simp only [beq_iff_eq, decide_eq_true_eq]
   rw [← h2, ← h1]
   omega
  rw [he]
theorem under_ok : FnOk Try.prog base 42 (pureS sUnder) := by
 refine pure_of_vc vmix (Tun_ok rbits_ok rshift_ok rdiv_ok ldexp_ok) globNone low42 fun args z hs hf => ?_
 unfold sUnder at hs
 split at hs
 case h_2 => cases hs
 rename_i s xs ys
 split at hs
 case h_2 => cases hs
 rename_i n d hxs hys
 split at hs
 case isFalse => cases hs
 rename_i hc
 obtain ⟨hd, ln, ld⟩ := hc
 obtain ⟨rfl, -⟩ := decN_some hxs
 obtain ⟨rfl, -⟩ := decN_some hys
 cases hs
 refine ⟨by simp [lf42], ?_⟩
 by_cases hn0 : n = 0
 ·subst hn0
  have e1 : exB 0 d = true := by
   unfold exB
   rw [lo_zero, mg_zero]
   exact decide_eq_true (by rw [Nat.zero_mul, Nat.zero_mul])
  rw [e1, lo_zero, limbs_zero]
  exact un_zero
 have hd0 : d ≠ 0 := by omega
 have z1 := sSize_num (a := n) (by omega)
 have z2 := sSize_num (a := d) (by omega)
 have p1 := size_pos hn0
 have p2 := size_pos hd0
 have u1 : size n ≤ 6400 := size_le_iff.2 (Nat.lt_of_lt_of_le (lt_len n) (Nat.le_trans (Bpow_le ln) (by have t := pow_mono (p := 64 * 100) (q := 6400) (by omega); rwa [← pow64, ← Nat.pow_mul 2 64 100])))
 have u2 : size d ≤ 6400 := size_le_iff.2 (Nat.lt_of_lt_of_le (lt_len d) (Nat.le_trans (Bpow_le ld) (by have t := pow_mono (p := 64 * 100) (q := 6400) (by omega); rwa [← pow64, ← Nat.pow_mul 2 64 100])))
 obtain ⟨b, hb⟩ : ∃ b : Int, b = min (53 - (((size n - 1 : Nat) : Int) - ((size d - 1 : Nat) : Int))) 1074 := ⟨_, rfl⟩
 obtain ⟨f1, f2, f3, f4⟩ := first_try (n := n) (d := d) (sn := size n - 1) (sd := size d - 1) (b := b) (size_le hn0) (by rw [show size n - 1 + 1 = size n by omega]; exact lt_size n) (size_le hd0) (by rw [show size d - 1 + 1 = size d by omega]; exact lt_size d) hb
 have gb : -10000 ≤ b - 1 := by omega
 have hh := qt_half (n := n) (d := d) f1
 obtain ⟨N, D, t1⟩ := try_of (n := n) (d := d) (b := b) (by omega) hd ln ld (by omega)
 obtain ⟨N2, D2, t2⟩ := try_of (n := n) (d := d) (b := b - 1) (by omega) hd ln ld (by rw [hh]; omega)
 rw [show -(b - 1) = -b + 1 by omega] at t2
 have hbig : 53 < size (qt n d b) ↔ 9007199254740992 ≤ qt n d b := by
  have := size_le_iff (n := qt n d b) (k := 53)
  rw [show (2 : Nat) ^ 53 = 9007199254740992 by decide] at this
  omega
 have s54 : size (qt n d b) ≤ 54 := size_le_iff.2 (by rw [show (2 : Nat) ^ 54 = 18014398509481984 by decide]; exact f2)
 have hs2 : 53 < size (qt n d b) → size (qt n d (b - 1)) ≤ 53 := fun _ => size_le_iff.2 (by rw [hh, show (2 : Nat) ^ 53 = 9007199254740992 by decide]; omega)
 -- the last try
 obtain ⟨c, hc⟩ : ∃ c : Int, c = if 53 < size (qt n d b) then b - 1 else b := ⟨_, rfl⟩
 have c1 : c ≤ 1074 := by rw [hc]; split <;> omega
 have eQ : (if 53 < size (qt n d b) then qt n d (b - 1) else qt n d b) = qt n d c := by rw [hc]; split <;> rfl
 have eR : (if 53 < size (qt n d b) then qr n d (b - 1) else qr n d b) = qr n d c := by rw [hc]; split <;> rfl
 have eE : (if 53 < size (qt n d b) then -b + 1 else -b) = -c := by rw [hc]; split <;> omega
 have eS : (if 53 < size (qt n d b) then size (qt n d (b - 1)) else size (qt n d b)) = size (qt n d c) := by rw [hc]; split <;> rfl
 have c2 : qt n d c < 9007199254740992 := by
  rw [hc]
  split
  ·rw [hh]; omega
  ·rename_i h; rw [hbig] at h; omega
 have c3 : c = 1074 ∨ 4503599627370496 ≤ qt n d c := by
  rw [hc]
  split
  ·rename_i h; rw [hbig] at h; rw [hh]; right; omega
  ·exact f3
 obtain ⟨g1, g2⟩ := fin_place hd c1 c2 c3
 rw [← g1, ← eR]
 have hfq : ∃ fq, FloatKind.f64.nearest ((qt n d c : Nat) : Int) = fq ∧ (qt n d c = 0 → fq = 0) ∧ (decide (1024 < ((size (qt n d c) : Nat) : Int) + -c) = false → sLdexp [.flt .f64 fq, .int .i64 (-c)] = some (.flt .f64 (loR n d))) := by
  by_cases h0 : qt n d c = 0
  ·refine ⟨0, by rw [h0]; exact near0, fun _ => rfl, fun h => ?_⟩
   have hlo : loR n d = 0 := mg_inj (by rw [(g2 h).1, h0, Nat.zero_mul, mg_zero])
   rw [hlo]
   exact ldnx_ok.ldz _ (by rw [hc]; split <;> omega)
  ·obtain ⟨r, i1, i2, i3, i4, i5, i6⟩ := i2f_at (q := qt n d c) (by omega) (by omega)
   exact ⟨r, i1, fun h => absurd h h0, fun h => ldnx_ok.ld r (loR n d) (-c) i3 (by omega) i5 (by rw [hc]; split <;> omega) (g2 h).2 (ld_quot (g2 h).1 (g2 h).2 i2 i4 c1)⟩
 obtain ⟨fq, q1, q2, q3⟩ := hfq
 exact un_walk (sz := sSize) (sh := sRShift) (sq := sQuotR) (sl := sLdexp) (e := -b) (e2 := -c) (N := N) (D := D) (Q := qt n d b) (R := qr n d b) (N2 := N2) (D2 := D2) (Q2 := qt n d (b - 1)) (R2 := qr n d (b - 1)) (L := loR n d) (fq := fq) (over := decide (1024 < ((size (qt n d c) : Nat) : Int) + -c))
  (by omega) z1 z2 (IntWalk.i64_in _ (by omega)) (IntWalk.i64_in _ (by omega)) (by rw [hb]; split <;> omega) (by omega) t1 (fun h => ⟨t2, hs2 h⟩) eE.symm (by rw [eS]) (by omega) (by rw [eQ]; omega) (by rw [eQ]; exact q1) (by rw [eQ]; exact q2) q3
end Go.Proofs.Ytbdccebpehogjaa

/-
 The reference's over and Quick: their contracts.
-/
namespace Go.Proofs.Ytbdccebpehogjaa
open Go Go.Abs Go.Flo Go.Limbs
variable {base : Prot}
set_option maxRecDepth 20000
attribute [local irreducible] vc
attribute [local simp] pureS touchV freezeL fuel shiftV u64 au
def Tov (su si sn : List PVal → Option PVal) : Tab := ((Tab.none.with 42 (pureS su)).with 19 (pureS si)).with 18 (pureS sn)
variable {su si sn : List PVal → Option PVal}
theorem Tov_ok (oku : FnOk Try.prog base 42 (pureS su)) (oki : FnOk Try.prog base 19 (pureS si)) (okn : FnOk Try.prog base 18 (pureS sn)) : TabOk Try.prog base (Tov su si sn) := Tab.with_ok (Tab.with_ok (Tab.with_ok Tab.none_ok oku) oki) okn
theorem Tov_mu (f : FuncId) (a : List AVal) (H : Heap) : (Tov su si sn).mu f a H = none := (rfl)
theorem Tov_fns : (Tov su si sn).fn 42 = pureS su ∧ (Tov su si sn).fn 19 = pureS si ∧ (Tov su si sn).fn 18 = pureS sn := ⟨rfl, rfl, rfl⟩
theorem over_walk {s : Bool} {xs ys : List PVal} {L U I : Nat} {e : Bool} (v1 : su [.agg [.bool s, .lst xs, .lst ys]] = some (.tup [.flt .f64 L, .bool e])) (v2 : si [.int .i64 1] = some (.flt .f64 I)) (v3 : e = false → sn [.flt .f64 L, .flt .f64 I] = some (.flt .f64 U)) :
  vc (Tov su si sn) lf43.body (endQ (Tov su si sn) lf43.results (.flt .f64 (if e = true then L else U))) (initFr [.p (.agg [.bool s, .lst xs, .lst ys])]) [] := by
 cases e with
 | true => simp [lf43, v1, Tov_mu, Tov_fns]
 | false =>
  have v3 := v3 rfl
  simp [lf43, v1, v2, v3, Tov_mu, Tov_fns]
def sOver : List PVal → Option PVal
 | [.agg [.bool _, .lst xs, .lst ys]] => match decN xs, decN ys with
  | some n, some d => if 0 < d ∧ len n ≤ 100 ∧ len d ≤ 100 then some (.flt .f64 (upR n d)) else none
  | _, _ => none
 | _ => none
theorem sUnder_num {s : Bool} {n d : Nat} (hd : 0 < d) (ln : len n ≤ 100) (ld : len d ≤ 100) : sUnder [.agg [.bool s, .lst ((limbs n).map u64), .lst ((limbs d).map u64)]] = some (.tup [.flt .f64 (loR n d), .bool (exB n d)]) := by
 simp only [sUnder, decN_num (show len n ≤ 100000 by omega), decN_num (show len d ≤ 100000 by omega)]
 exact if_pos ⟨hd, ln, ld⟩
theorem sOver_num {s : Bool} {n d : Nat} (hd : 0 < d) (ln : len n ≤ 100) (ld : len d ≤ 100) : sOver [.agg [.bool s, .lst ((limbs n).map u64), .lst ((limbs d).map u64)]] = some (.flt .f64 (upR n d)) := by
 simp only [sOver, decN_num (show len n ≤ 100000 by omega), decN_num (show len d ≤ 100000 by omega)]
 exact if_pos ⟨hd, ln, ld⟩
theorem over_ok : FnOk Try.prog base 43 (pureS sOver) := by
 refine pure_of_vc vmix (Tov_ok under_ok infw_ok next_ok) globNone low43 fun args z hs hf => ?_
 unfold sOver at hs
 split at hs
 case h_2 => cases hs
 rename_i s xs ys
 split at hs
 case h_2 => cases hs
 rename_i n d hxs hys
 split at hs
 case isFalse => cases hs
 rename_i hc
 obtain ⟨hd, ln, ld⟩ := hc
 obtain ⟨rfl, -⟩ := decN_some hxs
 obtain ⟨rfl, -⟩ := decN_some hys
 cases hs
 refine ⟨by simp [lf43], ?_⟩
 have key := over_walk (su := sUnder) (si := sInfW) (sn := sNext) (I := 9218868437227405312) (U := loR n d + 1) (sUnder_num (s := s) hd ln ld) rfl (fun he => ldnx_ok.nx _ (by
  have h1 := @loR_bd n d
  omega))
 rw [← upR_ex] at key
 exact key
def Tqk (sv sg su so : List PVal → Option PVal) : Tab := (((Tab.none.with 16 (pureS sv)).with 27 (pureS sg)).with 42 (pureS su)).with 43 (pureS so)
variable {sv sg so : List PVal → Option PVal}
theorem Tqk_ok (okv : FnOk Try.prog base 16 (pureS sv)) (okg : FnOk Try.prog base 27 (pureS sg)) (oku : FnOk Try.prog base 42 (pureS su)) (oko : FnOk Try.prog base 43 (pureS so)) : TabOk Try.prog base (Tqk sv sg su so) := Tab.with_ok (Tab.with_ok (Tab.with_ok (Tab.with_ok Tab.none_ok okv) okg) oku) oko
theorem Tqk_mu (f : FuncId) (a : List AVal) (H : Heap) : (Tqk sv sg su so).mu f a H = none := (rfl)
theorem Tqk_fns : (Tqk sv sg su so).fn 16 = pureS sv ∧ (Tqk sv sg su so).fn 27 = pureS sg ∧ (Tqk sv sg su so).fn 42 = pureS su ∧ (Tqk sv sg su so).fn 43 = pureS so := ⟨rfl, rfl, rfl, rfl⟩
theorem quick_walk {s s2 : Bool} {xs ys xs2 ys2 : List PVal} {L U L2 U2 NL NU : Nat} {e e2 ok : Bool} (v0 : sv [.agg [.bool s, .lst xs, .lst ys]] = some (.bool ok))
  (v1 : ok = true → s = true → sg [.agg [.bool s, .lst xs, .lst ys]] = some (.agg [.bool s2, .lst xs2, .lst ys2]) ∧ su [.agg [.bool s2, .lst xs2, .lst ys2]] = some (.tup [.flt .f64 L2, .bool e2]) ∧ so [.agg [.bool s2, .lst xs2, .lst ys2]] = some (.flt .f64 U2) ∧ Op.negFloat .f64 U2 = NU ∧ binF .sub .f64 0 L2 = some (.flt .f64 NL))
  (v2 : ok = true → s = false → su [.agg [.bool s, .lst xs, .lst ys]] = some (.tup [.flt .f64 L, .bool e]) ∧ so [.agg [.bool s, .lst xs, .lst ys]] = some (.flt .f64 U)) :
  vc (Tqk sv sg su so) lf14.body (endQ (Tqk sv sg su so) lf14.results (if ok = true then (if s = true then .cpx .f64 NU NL else .cpx .f64 L U) else .cpx .f64 0 0)) (initFr [.p (.agg [.bool s, .lst xs, .lst ys])]) [] := by
 cases ok with
 | false => simp [lf14, v0, Tqk_mu, Tqk_fns]
 | true =>
  cases s with
  | true =>
   obtain ⟨a1, a2, a3, a4, a5⟩ := v1 rfl rfl
   simp [lf14, v0, a1, a2, a3, a4, a5, Tqk_mu, Tqk_fns]
  | false =>
   obtain ⟨a1, a2⟩ := v2 rfl rfl
   simp [lf14, v0, a1, a2, Tqk_mu, Tqk_fns]
theorem quick_ok : FnOk Try.prog base 14 (pureS (f1 boundF)) := by
 refine pure_of_vc vmix (Tqk_ok rvalidR_ok rNeg_ok under_ok over_ok) globNone low14 fun args z hs hf => ?_
 obtain ⟨x, wx, rfl, rfl⟩ := f1_some hs
 refine ⟨by simp [lf14], ?_⟩
 have v0 : f1 boolF [x.enc] = some (.bool x.ok) := vF wx
 unfold boundF
 cases ox : x.ok with
 | false =>
  rw [ox] at v0
  simp only [Fr.enc] at v0 ⊢
  exact quick_walk (sg := f1 negP) (su := sUnder) (so := sOver) (s2 := false) (xs2 := []) (ys2 := []) (L := 0) (U := 0) (L2 := 0) (U2 := 0) (NL := 0) (NU := 0) (e := false) (e2 := false) v0 (fun h => by cases h) (fun h => by cases h)
 | true =>
  obtain ⟨q, hq, rfl⟩ := Fr.ok_of ox
  rw [ox] at v0
  rw [if_pos rfl, q_ofQ]
  rw [enc_ofQ] at v0 ⊢
  have hd := q.den_pos
  have ln : len q.num.natAbs ≤ 100 := by have := hq.1; omega
  have ld : len q.den ≤ 100 := by have := hq.2; omega
  have hb := @upR_bd q.num.natAbs q.den
  have hl := @loR_bd q.num.natAbs q.den
  have key := quick_walk (sv := f1 boolF) (sg := f1 negP) (su := sUnder) (so := sOver) (s := decide (q.num < 0)) (xs := (limbs q.num.natAbs).map u64) (ys := (limbs q.den).map u64) (s2 := decide (-q.num < 0)) (xs2 := (limbs q.num.natAbs).map u64) (ys2 := (limbs q.den).map u64)
   (L := loR q.num.natAbs q.den) (U := upR q.num.natAbs q.den) (L2 := loR q.num.natAbs q.den) (U2 := upR q.num.natAbs q.den) (NL := wk (-((loR q.num.natAbs q.den : Nat) : Int))) (NU := wk (-((upR q.num.natAbs q.den : Nat) : Int))) (e := exB q.num.natAbs q.den) (e2 := exB q.num.natAbs q.den) v0
   (fun _ hs => by
    have hs := of_decide_eq_true hs
    refine ⟨?_, sUnder_num hd ln ld, sOver_num hd ln ld, ?_, f_zsub (by omega)⟩
    ·have h1 : f1 negP [(ofQ q).enc] = some (negP (ofQ q)) := f1_at (wf_ofQ q)
     rw [enc_ofQ] at h1
     rw [h1]
     unfold negP
     rw [negF_num hq, enc_ofQ]
     show some (PVal.agg [.bool (decide (-q.num < 0)), .lst ((limbs (-q.num).natAbs).map u64), .lst ((limbs q.den).map u64)]) = _
     rw [Int.natAbs_neg]
    ·have hp := @upR_pos q.num.natAbs q.den (by omega)
     have e : wd false (upR q.num.natAbs q.den) = upR q.num.natAbs q.den := by unfold wd; rw [if_neg (by decide)]
     have := neg_wd false (r := upR q.num.natAbs q.den) (by omega)
     rw [e] at this
     rw [this, wk_negn hp]; rfl)
   (fun _ _ => ⟨sUnder_num hd ln ld, sOver_num hd ln ld⟩)
  have e : (if true = true then (if (decide (q.num < 0)) = true then PVal.cpx .f64 (wk (-((upR q.num.natAbs q.den : Nat) : Int))) (wk (-((loR q.num.natAbs q.den : Nat) : Int))) else .cpx .f64 (loR q.num.natAbs q.den) (upR q.num.natAbs q.den)) else .cpx .f64 0 0) = .cpx .f64 (wk (kLo q)) (wk (kHi q)) := by
   rw [if_pos rfl]
   unfold kLo kHi
   by_cases hs : q.num < 0
   ·rw [if_pos hs, if_pos hs, decide_eq_true hs, if_pos rfl]
   ·rw [if_neg hs, if_neg hs, decide_eq_false hs, if_neg (by decide), wk_nat, wk_nat]
  rw [e] at key
  exact key
end Go.Proofs.Ytbdccebpehogjaa
