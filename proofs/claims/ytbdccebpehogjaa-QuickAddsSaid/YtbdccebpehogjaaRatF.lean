/-
  What the reference's fractions compute, part 2. AcvNo conditions beyond the lemmas' own hypotheses.
-/
import Derived.Test.YtbdccebpehogjaaRatE
set_option linter.unusedSimpArgs false
set_option linter.unnecessarySimpa false
set_option linter.unusedVariables false
set_option linter.constructorNameAsVariable false

/-
 The reference's fractions: sums, differences, products, quotients.
-/
namespace Go.Proofs.Ytbdccebpehogjaa
open Go Go.Abs Go.Limbs
variable {base : Prot}
set_option maxRecDepth 20000
attribute [local irreducible] vc
attribute [local simp] pureS touchV freezeL fuel shiftV u64 au
def sAddR : List PVal → Option PVal
 | [a, b] => match decF a, decF b with | some x, some y => if x.ok ∧ y.ok then some (ofQ (x.q + y.q)).enc else none | _, _ => none
 | _ => none
theorem sAddR_num {p q : Rat} (hp : Sm 64 p) (hq : Sm 64 q) : sAddR [(ofQ p).enc, (ofQ q).enc] = some (ofQ (p + q)).enc := by
 simp only [sAddR, decF_enc (wf_ofQ p), decF_enc (wf_ofQ q)]
 rw [if_pos ⟨ok_ofQ hp, ok_ofQ hq⟩, q_ofQ, q_ofQ]
def Tra : Tab := Trc.with 37 (pureS sMade)
theorem Tra_ok : TabOk Try.prog base Tra := Tab.with_ok Trc_ok rmade_ok
theorem Tra_mu (f : FuncId) (a : List AVal) (H : Heap) : Tra.mu f a H = none := (rfl)
theorem Tra_fns : Tra.fn 37 = pureS sMade ∧ Tra.fn 78 = pureS sTimes ∧ Tra.fn 77 = pureS sWide ∧ Tra.fn 76 = pureS sWOrd ∧ Tra.fn 79 = pureS sWPlus := ⟨rfl, rfl, rfl, rfl, rfl⟩
theorem raddR_ok : FnOk Try.prog base 55 (pureS sAddR) := by
 refine pure_of_vc hmix Tra_ok globNone low55 fun args z hs hf => ?_
 unfold sAddR at hs
 split at hs
 case h_2 => cases hs
 rename_i v w
 split at hs
 case h_2 => cases hs
 rename_i x y hx hy
 obtain ⟨rfl, wx⟩ := decF_some hx
 obtain ⟨rfl, wy⟩ := decF_some hy
 split at hs
 case isFalse => cases hs
 rename_i hok
 cases hs
 obtain ⟨p, hp, rfl⟩ := Fr.ok_of hok.1
 obtain ⟨q, hq, rfl⟩ := Fr.ok_of hok.2
 refine ⟨by simp [lf55], ?_⟩
 rw [q_ofQ, q_ofQ]
 obtain ⟨m1, w1⟩ := mulW (Sm_z hp) hq.2
 obtain ⟨m2, w2⟩ := mulW (Sm_z hq) hp.2
 have zp := Sm_z hp
 have zq := Sm_z hq
 have dp := Sm_d hp
 have dq := Sm_d hq
 have l1 := zl_mul (z := p.num) (w := q.den)
 have l2 := zl_mul (z := q.num) (w := p.den)
 have o := sWPlus_num (z := p.num * q.den) (w := q.num * p.den) (by omega) (by omega)
 have l3 := zl_add (z := p.num * q.den) (w := q.num * p.den)
 have hpd := hp.2
 have hqd := hq.2
 have dd : sTimes [.lst ((limbs p.den).map u64), .lst ((limbs q.den).map u64)] = some (.lst ((limbs (p.den * q.den)).map u64)) := sTimes_num (by omega) (by omega)
 have l4 := len_mul p.den q.den
 have lw := sMade_num (decide (p.num * q.den + q.num * p.den < 0)) (a := (p.num * q.den + q.num * p.den).natAbs) (b := p.den * q.den) (by unfold zl at *; omega) (by omega) (Nat.mul_ne_zero p.den_nz q.den_nz)
 rw [zOf_sign, add_mk] at lw
 obtain ⟨w, hw⟩ : ∃ w, w = p.num * q.den + q.num * p.den := ⟨_, rfl⟩
 rw [← hw] at o lw
 obtain ⟨R, hR⟩ : ∃ R, R = ofQ (p + q) := ⟨_, rfl⟩
 rw [← hR] at lw ⊢
 rw [iN_case w] at o
 simp only [enc_ofQ]
 simp only [Fr.enc] at lw ⊢
 simp [lf55, vc_regionW, fillS, Tra_mu, Tra_fns]
 refine ⟨[], ?_⟩
 simp [m1, w1, m2, w2, o, vc_regionW, fillS, Tra_mu, Tra_fns]
 refine ⟨fun k hk => by match k, hk with | 0, _ => rfl | 1, _ => rfl | 2, _ => rfl, [], ?_⟩
 simp [dd, lw, fillS, Tra_mu, Tra_fns]
def Trtq : Tab := (((((Tab.none.with 16 (pureS (f1 boolF))).with 55 (pureS sAddR)).with 54 (pureS (f1 fitP))).with 27 (pureS (f1 negP))).with 78 (pureS sTimes)).with 37 (pureS sMade)
theorem Trtq_ok : TabOk Try.prog base Trtq := Tab.with_ok (Tab.with_ok (Tab.with_ok (Tab.with_ok (Tab.with_ok (Tab.with_ok Tab.none_ok rvalidR_ok) raddR_ok) rfitsR_ok) rNeg_ok) rmul_ok) rmade_ok
theorem Trtq_mu (f : FuncId) (a : List AVal) (H : Heap) : Trtq.mu f a H = none := (rfl)
theorem Trtq_fns : Trtq.fn 16 = pureS (f1 boolF) ∧ Trtq.fn 55 = pureS sAddR ∧ Trtq.fn 54 = pureS (f1 fitP) ∧ Trtq.fn 27 = pureS (f1 negP) ∧ Trtq.fn 78 = pureS sTimes ∧ Trtq.fn 37 = pureS sMade := ⟨rfl, rfl, rfl, rfl, rfl, rfl⟩
theorem rAdd_ok : FnOk Try.prog base 25 (pureS (f2 addP)) := by
 refine pure_of_vc hmix Trtq_ok globNone low25 fun args z hs hf => ?_
 obtain ⟨x, y, wx, wy, rfl, rfl⟩ := f2_some hs
 refine ⟨by simp [lf25], ?_⟩
 have v1 := vF wx
 have v2 := vF wy
 cases ox : x.ok with
 | false => rw [ox] at v1; simp only [Fr.enc] at v1 ⊢; simp [lf25, v1, addP, addF, ox, pairF, zF, Fr.enc, fillS, Trtq_mu, Trtq_fns]
 | true =>
  rw [ox] at v1
  cases oy : y.ok with
  | false => rw [oy] at v2; simp only [Fr.enc] at v1 v2 ⊢; simp [lf25, v1, v2, addP, addF, ox, oy, pairF, zF, Fr.enc, fillS, Trtq_mu, Trtq_fns]
  | true =>
   rw [oy] at v2
   obtain ⟨p, hp, rfl⟩ := Fr.ok_of ox
   obtain ⟨q, hq, rfl⟩ := Fr.ok_of oy
   have e : addP (ofQ p) (ofQ q) = pairF (heldQ (p + q)) := by unfold addP; rw [addF_num hp hq]
   rw [e]
   have a := sAddR_num hp hq
   have f := fitP_num (p + q)
   obtain ⟨R, hR⟩ : ∃ R, R = heldQ (p + q) := ⟨_, rfl⟩
   obtain ⟨S, hS⟩ : ∃ S, S = ofQ (p + q) := ⟨_, rfl⟩
   rw [← hR, ← hS] at f
   rw [← hS] at a
   rw [← hR]
   simp only [pairF, Fr.enc] at v1 v2 a f ⊢
   simp [lf25, v1, v2, a, f, fillS, Trtq_mu, Trtq_fns]
end Go.Proofs.Ytbdccebpehogjaa
