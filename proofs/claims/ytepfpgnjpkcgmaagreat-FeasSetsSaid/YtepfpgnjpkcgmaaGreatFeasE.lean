/-
  What both sides' Pick and Of compute. No conditions beyond the lemmas' own hypotheses.
-/
import Derived.Test.YtepfpgnjpkcgmaaGreatFeasD
import Derived.Test.YtepfpgnjpkcgmaaGreatRatD
import Derived.Test.YtepfpgnjpkcgmaaGreatAtomC
import Derived.Test.YtepfpgnjpkcgmaaGreatLinE
set_option linter.unusedSimpArgs false
set_option linter.unnecessarySimpa false
set_option linter.unusedVariables false
set_option linter.constructorNameAsVariable false

/-
 The reference's fractions: the whole number below, a number between two.
-/
namespace Go.Proofs.YtepfpgnjpkcgmaaGreat
open Go Go.Abs Go.Limbs
variable {base : Prot}
set_option maxRecDepth 20000
attribute [local irreducible] vc
attribute [local simp] pureS touchV freezeL fuel shiftV u64 au
theorem zeroQ_of : sQOf [.int .i64 0, .int .i64 1] = some (ofQ 0).enc := by
 have := oL (n := 0) (d := 1) (q := 0) (by decide) (by decide +kernel)
 exact this
end Go.Proofs.YtepfpgnjpkcgmaaGreat

/-
 Sets of spans: a number of a set: both sides.
-/
namespace Go.Proofs.YtepfpgnjpkcgmaaGreat
open Go Go.Abs Go.Limbs
variable {base : Prot}
set_option maxRecDepth 20000
attribute [local irreducible] vc
attribute [local simp] pureS touchV freezeL fuel shiftV u64 au
def insideS (x : Sp) : Fr × Nat :=
 if (x.nl && x.nh) = true then (ofQ 0, 0)
 else if (!x.nl && !x.o1) = true then (x.lo, 0)
 else if (!x.nh && !x.o2) = true then (x.hi, 0)
 else if x.nh = true then heldQ ((x.lo.q.floor + 1 : Int) : Rat)
 else if x.nl = true then heldQ ((-((-x.hi.q).floor + 1) : Int) : Rat)
 else heldQ (betweenQ x.lo.q x.hi.q)
def tinyF (x : Fr) : Bool := decide (x.n.length ≤ 20) && decide (x.d.length ≤ 20)
def tinySp (x : Sp) : Bool := tinyF x.lo && tinyF x.hi
def sInside : List PVal → Option PVal
 | [a] => match decSp a with | some x => if (goodB x && (someS x && tinySp x)) = true then some (pairF (insideS x)) else none | none => none
 | _ => none
theorem sInside_at {x : Sp} (w : x.wf) (g : x.good) (s : someS x = true) (t : tinySp x = true) : sInside [x.enc] = some (pairF (insideS x)) := by
 simp only [sInside, decSp_enc w, goodB_iff.2 g, s, t, Bool.and_self, if_true]
theorem tiny_sm {x : Fr} (h : tinyF x = true) (ho : x.ok = true) : ∃ q : Rat, Sm 20 q ∧ x = ofQ q := by
 obtain ⟨q, hq, rfl⟩ := Fr.ok_of ho
 unfold tinyF at h
 rw [Bool.and_eq_true] at h
 exact ⟨q, ⟨of_decide_eq_true h.1, of_decide_eq_true h.2⟩, rfl⟩
def Tfins : Tab := ((((Tab.none.with 101 (pureS sQZero)).with 86 (pureS sOwn)).with 169 (pureS sAbove)).with 170 (pureS sBelow)).with 171 (pureS sBet)
theorem Tfins_ok : TabOk Tryz.prog base Tfins := Tab.with_ok (Tab.with_ok (Tab.with_ok (Tab.with_ok (Tab.with_ok Tab.none_ok qzero_ok) lown_ok) qabove_ok) qbelow_ok) qbetween_ok
theorem Tfins_mu (f : FuncId) (a : List AVal) (H : Heap) : Tfins.mu f a H = none := (rfl)
theorem Tfins_fns : Tfins.fn 101 = (pureS sQZero) ∧ Tfins.fn 86 = (pureS sOwn) ∧ Tfins.fn 169 = (pureS sAbove) ∧ Tfins.fn 170 = (pureS sBelow) ∧ Tfins.fn 171 = (pureS sBet) := ⟨rfl, rfl, rfl, rfl, rfl⟩
theorem finside_ok : FnOk Tryz.prog base 125 (pureS sInside) := by
 refine pure_of_vc hmix Tfins_ok globNone low125 fun args z hs hf => ?_
 unfold sInside at hs
 split at hs
 case h_2 => cases hs
 split at hs
 case h_2 => cases hs
 rename_i x hx
 obtain ⟨rfl, wx⟩ := decSp_some hx
 split at hs
 case isFalse => cases hs
 rename_i hc
 cases hs
 simp only [Bool.and_eq_true] at hc
 obtain ⟨hg, hsome, htiny⟩ := hc
 have gx := goodB_iff.1 hg
 unfold tinySp at htiny
 rw [Bool.and_eq_true] at htiny
 have v1 := sOwn_at wx.1 (small_bound gx.1)
 have v2 := sOwn_at wx.2 (small_bound gx.2)
 have z0 : sQZero [] = some (ofQ 0).enc := sQZero_nil
 refine ⟨by simp [lf125], ?_⟩
 obtain ⟨lo, hi, nl, nh, o1, o2⟩ := x
 obtain ⟨g1, g2⟩ := gx
 dsimp only at g1 g2 v1 v2 htiny
 unfold insideS
 cases nl <;> cases nh <;> dsimp only [Bool.and_true, Bool.true_and, Bool.false_and, Bool.and_false, Bool.not_true, Bool.not_false]
 ·cases o1
  ·simp only [Fr.enc] at v1
   simp [lf125, v1, Sp.enc, Fr.enc, pairF, fillS, Tfins_mu, Tfins_fns]
  ·cases o2
   ·simp only [Fr.enc] at v2
    simp [lf125, v2, Sp.enc, Fr.enc, pairF, fillS, Tfins_mu, Tfins_fns]
   ·obtain ⟨p, hp, rfl⟩ := tiny_sm htiny.1 (bound_ok g1)
    obtain ⟨q, hq, rfl⟩ := tiny_sm htiny.2 (bound_ok g2)
    unfold someS at hsome
    rw [cmpF_num (Sm_mono hp (by omega)) (Sm_mono hq (by omega))] at hsome
    have hlt : p < q := by
     simp at hsome
     exact cmpQ_neg_iff.1 hsome
    have b := sBet_num (Sm_mono hp (show 20 ≤ 60 by omega)) (Sm_mono hq (show 20 ≤ 60 by omega)) hlt
    obtain ⟨R, hR⟩ : ∃ R, R = heldQ (betweenQ p q) := ⟨_, rfl⟩
    rw [q_ofQ, q_ofQ, ← hR]
    rw [← hR] at b
    simp only [pairF, Fr.enc] at b
    simp [lf125, b, Sp.enc, Fr.enc, pairF, fillS, Tfins_mu, Tfins_fns]
 ·cases o1
  ·simp only [Fr.enc] at v1
   simp [lf125, v1, Sp.enc, Fr.enc, pairF, fillS, Tfins_mu, Tfins_fns]
  ·obtain ⟨p, hp, rfl⟩ := tiny_sm htiny.1 (bound_ok g1)
   have b := sAbove_num (Sm_mono hp (show 20 ≤ 60 by omega))
   obtain ⟨R, hR⟩ : ∃ R, R = heldQ ((p.floor + 1 : Int) : Rat) := ⟨_, rfl⟩
   rw [q_ofQ, ← hR]
   rw [← hR] at b
   simp only [pairF, Fr.enc] at b
   simp [lf125, b, Sp.enc, Fr.enc, pairF, fillS, Tfins_mu, Tfins_fns]
 ·cases o2
  ·simp only [Fr.enc] at v2
   simp [lf125, v2, Sp.enc, Fr.enc, pairF, fillS, Tfins_mu, Tfins_fns]
  ·obtain ⟨q, hq, rfl⟩ := tiny_sm htiny.2 (bound_ok g2)
   have b := sBelow_num (Sm_mono hq (show 20 ≤ 60 by omega))
   obtain ⟨R, hR⟩ : ∃ R, R = heldQ ((-((-q).floor + 1) : Int) : Rat) := ⟨_, rfl⟩
   rw [q_ofQ, ← hR]
   rw [← hR] at b
   simp only [pairF, Fr.enc] at b
   simp [lf125, b, Sp.enc, Fr.enc, pairF, fillS, Tfins_mu, Tfins_fns]
 ·obtain ⟨Z, hZ⟩ : ∃ Z, Z = ofQ 0 := ⟨_, rfl⟩
  rw [← hZ] at z0 ⊢
  simp only [Fr.enc] at z0
  simp [lf125, z0, Sp.enc, Fr.enc, pairF, fillS, Tfins_mu, Tfins_fns]
def pickS (l : List Sp) (k : Int) : Fr × Nat := if decide (l = []) || !validP none l then (zF, 5) else match l[(k % (l.length : Int)).toNat]? with | some x => insideS x | none => (zF, 5)
def tinyL (l : List Sp) : Bool := decide (l.length ≤ 1000) && l.all tinySp
def sPick : List PVal → Option PVal
 | [.lst vs, .int .i64 k] => match decSs vs with | some l => if tinyL l = true then some (pairF (pickS l k)) else none | none => none
 | _ => none
theorem rem_mod {k n : Int} (hn : 0 < n) : Int.tmod (Int.tmod k n + n) n = k % n := by
 have h1 := Int.tmod_lt_of_pos k hn
 have h2 : -n < Int.tmod k n := by
  rw [Int.tmod_eq_emod]
  have := Int.emod_nonneg k (show n ≠ 0 by omega)
  have := Int.emod_lt_of_pos k hn
  split <;> omega
 rw [Int.tmod_eq_emod_of_nonneg (by omega), Int.add_emod_right]
 rw [Int.tmod_eq_emod]
 split
 ·simp
 ·rw [Int.natAbs_of_nonneg (by omega), Int.sub_emod_right, Int.emod_emod_of_dvd _ (Int.dvd_refl n)]
theorem some_of_valid : ∀ {a : Option Sp} {l : List Sp}, validP a l = true → ∀ x ∈ l, x.good ∧ someS x = true
 | _, y :: r, h, x, hx => by
  simp only [validP, okS, Bool.and_eq_true] at h
  rcases List.mem_cons.1 hx with rfl | hx
  ·exact ⟨⟨h.1.1, h.1.2.1⟩, h.1.2.2⟩
  ·exact some_of_valid h.2.2 x hx
def Tfpk : Tab := (Tab.none.with 60 (pureS (s1 validS))).with 125 (pureS sInside)
theorem Tfpk_ok : TabOk Tryz.prog base Tfpk := Tab.with_ok (Tab.with_ok Tab.none_ok fvalid_ok) finside_ok
theorem Tfpk_mu (f : FuncId) (a : List AVal) (H : Heap) : Tfpk.mu f a H = none := (rfl)
theorem Tfpk_fns : Tfpk.fn 60 = (pureS (s1 validS)) ∧ Tfpk.fn 125 = (pureS sInside) := ⟨rfl, rfl⟩
theorem fpick_ok : FnOk Tryz.prog base 58 (pureS sPick) := by
 refine pure_of_vc hmix Tfpk_ok globNone low58 fun args z hs hf => ?_
 unfold sPick at hs
 split at hs
 case h_2 => cases hs
 rename_i vs k
 split at hs
 case h_2 => cases hs
 rename_i l hl
 obtain ⟨rfl, wl⟩ := decSs_some hl
 split at hs
 case isFalse => cases hs
 rename_i ht
 cases hs
 unfold tinyL at ht
 rw [Bool.and_eq_true] at ht
 have hlen := of_decide_eq_true ht.1
 refine ⟨by simp [lf58], ?_⟩
 have v1 : s1 validS [.lst (l.map Sp.enc)] = some (.bool (validP none l)) := s1_at wl
 unfold pickS
 by_cases h0 : l = []
 ·subst h0
  simp [lf58, v1, zF, Fr.enc, pairF, fillS, Tfpk_mu, Tfpk_fns]
 have hpos : 0 < l.length := by cases l with | nil => exact absurd rfl h0 | cons _ _ => simp
 have hl0 : ((l.length : Int) == 0) = false := by simp; omega
 rw [decide_eq_false h0]
 cases h1 : validP none l with
 | false => rw [h1] at v1; simp [lf58, v1, hl0, zF, Fr.enc, pairF, fillS, Tfpk_mu, Tfpk_fns]
 | true =>
 rw [h1] at v1
 have hm0 := Int.emod_nonneg k (show (l.length : Int) ≠ 0 by omega)
 have hm1 := Int.emod_lt_of_pos k (show (0 : Int) < l.length by omega)
 obtain ⟨j, hj⟩ : ∃ j : Nat, k % (l.length : Int) = j := ⟨(k % (l.length : Int)).toNat, by omega⟩
 have hjl : j < l.length := by omega
 obtain ⟨x, hx⟩ : ∃ x, l[j]? = some x := ⟨_, List.getElem?_eq_getElem hjl⟩
 have hxm := List.mem_of_getElem? hx
 obtain ⟨gx, sx⟩ := some_of_valid h1 x hxm
 have v2 := sInside_at (wl x hxm) gx sx (List.all_eq_true.1 ht.2 x hxm)
 have hxe := getE hx
 rw [hj, Int.toNat_natCast, hx]
 simp only [Bool.false_or, Bool.not_true, Bool.false_eq_true, if_false]
 obtain ⟨R, hR⟩ : ∃ R, R = insideS x := ⟨_, rfl⟩
 rw [← hR] at v2 ⊢
 have e1 : IntKind.i64.wrap (Int.tmod k l.length + l.length) = Int.tmod k l.length + l.length := by
  have h1 := Int.tmod_lt_of_pos k (show (0 : Int) < l.length by omega)
  have h2 : -(l.length : Int) < Int.tmod k l.length := by
   rw [Int.tmod_eq_emod]
   split <;> omega
  exact IntWalk.i64_in _ (by omega)
 have e2 : Int.tmod (Int.tmod k l.length + l.length) l.length = (j : Int) := by rw [rem_mod (by omega), hj]
 simp only [pairF, Sp.enc, Fr.enc] at v2
 simp [lf58, v1, hl0, h0, e1, e2, hjl, hxe, v2, Sp.enc, Fr.enc, pairF, fillS, Tfpk_mu, Tfpk_fns]
end Go.Proofs.YtepfpgnjpkcgmaaGreat

/-
 Sets of spans: what a number can be, so that an atom is so: both sides.
-/
namespace Go.Proofs.YtepfpgnjpkcgmaaGreat
open Go Go.Abs Go.Limbs
variable {base : Prot}
set_option maxRecDepth 20000
attribute [local irreducible] vc
attribute [local simp] pureS touchV freezeL fuel shiftV u64 au
def cutS (k : Int) (up : Bool) (q : Fr) : List Sp := if k = 3 then pointS q else if up = true then [⟨zF, q, true, false, false, decide (k = 2)⟩] else [⟨q, zF, false, true, decide (k = 2), false⟩]
def turnS (nt : Bool) (s : List Sp) : List Sp := if nt = true then otherL s else s
def ofAt (lk : Int → Fr) (x : At) (nt : Bool) (v : Int) : List Sp × Nat :=
 if x.ok && (isSum x.k && decide (signF (coefPo x.p v) ≠ 0)) then
  if (valuePo lk (withoutPo x.p v)).2 = 0 then
   if (quoF (negF (valuePo lk (withoutPo x.p v)).1) (coefPo x.p v)).2 = 0 then
    (turnS nt (cutS x.k (decide (0 < signF (coefPo x.p v))) (quoF (negF (valuePo lk (withoutPo x.p v)).1) (coefPo x.p v)).1), 0)
   else ([], (quoF (negF (valuePo lk (withoutPo x.p v)).1) (coefPo x.p v)).2)
  else ([], (valuePo lk (withoutPo x.p v)).2)
 else ([], 1)
def pairSs (r : List Sp × Nat) : PVal := .tup [.lst (r.1.map Sp.enc), .int .i64 r.2]
def sOfA (L : Lk) : List PVal → Option PVal
 | [a, .bool nt, .int .i64 v, c] => match decAt a with | some x => if x.p.few = true then (match L c (withoutPo x.p v) with | some lk => some (pairSs (ofAt lk x nt v)) | none => none) else none | none => none
 | _ => none
def Tfof (L : Lk) : Tab := ((((((((Tab.none.with 32 (pureS (gi coefP))).with 46 (pureS (h1 okAt))).with 87 (pureS (f1 signP))).with 96 (pureS (gis withoutP))).with 23 (pureS (sValue L))).with 140 (pureS (f1 negP))).with 94 (pureS (f2 quoP))).with 71 (pureS (f1 pointP))).with 67 (pureS (ks1 100000 otherP))
theorem Tfof_mu (L : Lk) (f : FuncId) (a : List AVal) (H : Heap) : (Tfof L).mu f a H = none := (rfl)
theorem Tfof_fns (L : Lk) : (Tfof L).fn 32 = pureS (gi coefP) ∧ (Tfof L).fn 46 = pureS (h1 okAt) ∧ (Tfof L).fn 87 = pureS (f1 signP) ∧ (Tfof L).fn 96 = pureS (gis withoutP) ∧ (Tfof L).fn 23 = pureS (sValue L) ∧ (Tfof L).fn 140 = pureS (f1 negP) ∧ (Tfof L).fn 94 = pureS (f2 quoP) ∧ (Tfof L).fn 71 = pureS (f1 pointP) ∧ (Tfof L).fn 67 = pureS (ks1 100000 otherP) := ⟨rfl, rfl, rfl, rfl, rfl, rfl, rfl, rfl, rfl⟩
theorem wf_pointS {x : Fr} (h : x.wf) : wfSs (pointS x) := by
 unfold pointS
 split
 ·intro y hy; rw [List.mem_singleton] at hy; subst hy; exact ⟨h, h⟩
 ·intro y hy; cases hy
theorem len_pointS (x : Fr) : (pointS x).length ≤ 1 := by unfold pointS; split <;> simp
theorem wf_cutS {k : Int} {up : Bool} {q : Fr} (h : q.wf) : wfSs (cutS k up q) := by
 unfold cutS
 split
 ·exact wf_pointS h
 ·split <;> (intro y hy; rw [List.mem_singleton] at hy; subst hy)
  ·exact ⟨wf_zF, h⟩
  ·exact ⟨h, wf_zF⟩
theorem len_cutS (k : Int) (up : Bool) (q : Fr) : (cutS k up q).length ≤ 1 := by
 unfold cutS
 split
 ·exact len_pointS q
 ·split <;> simp
set_option maxHeartbeats 4000000 in
theorem fof_ok {L : Lk} (hv : FnOk Tryz.prog base 23 (pureS (sValue L))) : FnOk Tryz.prog base 76 (pureS (sOfA L)) := by
 refine pure_of_vc (T := Tfof L) hmix (Tab.with_ok (Tab.with_ok (Tab.with_ok (Tab.with_ok (Tab.with_ok (Tab.with_ok (Tab.with_ok (Tab.with_ok (Tab.with_ok Tab.none_ok lcoef_ok) avalid_ok) qsign_ok) lwithout_ok) hv) qneg_ok) qquo_ok) fpoint_ok) fother_ok) globNone low76 fun args z hs hf => ?_
 unfold sOfA at hs
 split at hs
 case h_2 => cases hs
 rename_i a nt v c
 split at hs
 case h_2 => cases hs
 rename_i x hx
 obtain ⟨rfl, wx⟩ := decAt_some hx
 split at hs
 case isFalse => cases hs
 rename_i fx
 split at hs
 case h_2 => cases hs
 rename_i lk hl
 cases hs
 refine ⟨by simp [lf76], ?_⟩
 have v1 : gi coefP [x.p.enc, .int .i64 v] = some (coefPo x.p v).enc := gi_at wx
 have v2 : h1 okAt [x.enc] = some (.bool x.ok) := h1_at wx
 have v3 : f1 signP [(coefPo x.p v).enc] = some (.int .i64 (signF (coefPo x.p v))) := f1_at (wf_coefPo wx v)
 have v4 : gis withoutP [x.p.enc, .int .i64 v] = some (withoutPo x.p v).enc := gis_at wx fx
 have v5 := sValue_at (wf_without wx v) (few_without fx v) hl
 have wv := wf_valuePo (lk := lk) (wf_without wx v)
 unfold pairSs ofAt
 obtain ⟨r, hr⟩ : ∃ r, r = valuePo lk (withoutPo x.p v) := ⟨_, rfl⟩
 rw [← hr] at v5 wv ⊢
 have wc := wf_coefPo wx v
 obtain ⟨cf, hcf⟩ : ∃ c, c = coefPo x.p v := ⟨_, rfl⟩
 rw [← hcf] at v1 v3 wc ⊢
 obtain ⟨w, hw⟩ : ∃ w, w = withoutPo x.p v := ⟨_, rfl⟩
 rw [← hw] at v4 v5
 have v6 : f1 negP [r.1.enc] = some (negF r.1).enc := f1_at wv
 have v7 : f2 quoP [(negF r.1).enc, cf.enc] = some (pairF (quoF (negF r.1) cf)) := f2_at (wf_negF _) wc
 have wq := wf_quoF (negF r.1) cf
 obtain ⟨n, hn⟩ : ∃ n, n = negF r.1 := ⟨_, rfl⟩
 rw [← hn] at v6 v7 wq ⊢
 obtain ⟨q, hq⟩ : ∃ q, q = quoF n cf := ⟨_, rfl⟩
 rw [← hq] at v7 wq ⊢
 have v8 : f1 pointP [q.1.enc] = some (.lst ((pointS q.1).map Sp.enc)) := f1_at wq
 have v9 : ks1 100000 otherP [.lst ((cutS x.k (decide (0 < signF cf)) q.1).map Sp.enc)] = some (.lst ((otherL (cutS x.k (decide (0 < signF cf)) q.1)).map Sp.enc)) := ks1_at (wf_cutS wq) (decide_eq_true (by have := len_cutS x.k (decide (0 < signF cf)) q.1; omega))
 obtain ⟨sg, hsg⟩ : ∃ s, s = signF cf := ⟨_, rfl⟩
 rw [← hsg] at v3 v9 ⊢
 have es : (sg == 0) = decide (sg = 0) := rfl
 have er : ((r.2 : Int) == 0) = decide (r.2 = 0) := by rw [Bool.eq_iff_iff]; simp
 have er2 : ((r.2 : Int) != 0) = !decide (r.2 = 0) := by rw [Bool.eq_iff_iff]; simp
 have eq2 : ((q.2 : Int) != 0) = !decide (q.2 = 0) := by rw [Bool.eq_iff_iff]; simp
 have eq : ((q.2 : Int) == 0) = decide (q.2 = 0) := by rw [Bool.eq_iff_iff]; simp
 clear hl hr hcf hw hn hq hsg hf hx
 obtain ⟨k, p, xa, xb⟩ := x
 obtain ⟨o, ho⟩ : ∃ o, o = (At.mk k p xa xb).ok := ⟨_, rfl⟩
 rw [← ho] at v2 ⊢
 clear ho
 unfold turnS
 unfold pairF at v5 v7
 simp only [At.enc, Po.enc, Fr.enc] at v1 v2 v3 v4 v5 v6 v7 v8 v9 ⊢
 by_cases hk : k = 1 ∨ k = 2 ∨ k = 3
 ·have hks : isSum k = true := by unfold isSum; rcases hk with h | h | h <;> simp [h]
  rw [hks]
  rcases hk with rfl | rfl | rfl
  all_goals
   cases o
   ·simp [lf76, v1, v2, fillS, Tfof_mu, Tfof_fns]
   ·by_cases hs0 : sg = 0
    ·simp [lf76, v1, v2, v3, es, hs0, fillS, Tfof_mu, Tfof_fns]
    ·by_cases hr0 : r.2 = 0
     ·by_cases hq0 : q.2 = 0
      ·by_cases hs1 : 0 < sg
       ·cases nt
        ·simp [lf76, v1, v2, v3, v4, v5, es, er, er2, hs0, hr0, fillS, Tfof_mu, Tfof_fns]
         rw [vc_regionW]
         refine ⟨[], ?_⟩
         simp [lf76, v1, v2, v3, v4, v5, v6, v7, v8, es, er, er2, eq, eq2, hs0, hr0, hs1, hq0, fillS, Tfof_mu, Tfof_fns]
         all_goals first | rfl | simp [cutS, Sp.enc, Fr.enc, zF]
        ·simp [lf76, v1, v2, v3, v4, v5, es, er, er2, hs0, hr0, fillS, Tfof_mu, Tfof_fns]
         rw [vc_regionW]
         refine ⟨[], ?_⟩
         simp [hs1, cutS, Sp.enc, Fr.enc, zF] at v9
         simp [lf76, v1, v2, v3, v4, v5, v6, v7, v8, v9, es, er, er2, eq, eq2, hs0, hr0, hs1, hq0, fillS, Tfof_mu, Tfof_fns]
         all_goals first | rfl | simp [cutS, Sp.enc, Fr.enc, zF]
       ·cases nt
        ·simp [lf76, v1, v2, v3, v4, v5, es, er, er2, hs0, hr0, fillS, Tfof_mu, Tfof_fns]
         rw [vc_regionW]
         refine ⟨[], ?_⟩
         simp [lf76, v1, v2, v3, v4, v5, v6, v7, v8, es, er, er2, eq, eq2, hs0, hr0, hs1, hq0, fillS, Tfof_mu, Tfof_fns]
         all_goals first | rfl | simp [cutS, Sp.enc, Fr.enc, zF]
        ·simp [lf76, v1, v2, v3, v4, v5, es, er, er2, hs0, hr0, fillS, Tfof_mu, Tfof_fns]
         rw [vc_regionW]
         refine ⟨[], ?_⟩
         simp [hs1, cutS, Sp.enc, Fr.enc, zF] at v9
         simp [lf76, v1, v2, v3, v4, v5, v6, v7, v8, v9, es, er, er2, eq, eq2, hs0, hr0, hs1, hq0, fillS, Tfof_mu, Tfof_fns]
         all_goals first | rfl | simp [cutS, Sp.enc, Fr.enc, zF]
      ·simp [lf76, v1, v2, v3, v4, v5, es, er, er2, hs0, hr0, fillS, Tfof_mu, Tfof_fns]
       rw [vc_regionW]
       refine ⟨[], ?_⟩
       simp [lf76, v1, v2, v3, v4, v5, v6, v7, es, er, er2, eq, eq2, hs0, hr0, hq0, fillS, Tfof_mu, Tfof_fns]
     ·simp [lf76, v1, v2, v3, v4, v5, es, er, er2, hs0, hr0, fillS, Tfof_mu, Tfof_fns]
 ·have hks : isSum k = false := by unfold isSum; simp; omega
  have h1 : (k == 1) = false := by simp; omega
  have h2 : (k == 2) = false := by simp; omega
  have h3 : (k == 3) = false := by simp; omega
  have h1' : (k != 1) = true := by simp; omega
  have h2' : (k != 2) = true := by simp; omega
  have h3' : (k != 3) = true := by simp; omega
  rw [hks]
  simp [lf76, v1, h1', h2', h3', h1, h2, h3, fillS, Tfof_mu, Tfof_fns]
end Go.Proofs.YtepfpgnjpkcgmaaGreat
