/-
  What both sides' Meet, Other and Join compute, for sets of at most 900 spans.
-/
import Derived.Test.YtepfpgnjpkcgmaaGreatFeasC
set_option linter.unusedSimpArgs false
set_option linter.unnecessarySimpa false
set_option linter.unusedVariables false
set_option linter.constructorNameAsVariable false

/-
 Sets of spans: another span like it; what two spans share.
-/
namespace Go.Proofs.YtepfpgnjpkcgmaaGreat
open Go Go.Abs Go.Limbs
variable {base : Prot}
set_option maxRecDepth 20000
attribute [local irreducible] vc
attribute [local simp] pureS touchV freezeL fuel shiftV u64 au
def goodB (x : Sp) : Bool := boundS x.lo x.nl x.o1 && boundS x.hi x.nh x.o2
theorem goodB_iff {x : Sp} : goodB x = true ↔ x.good := by unfold goodB Sp.good; rw [Bool.and_eq_true]
theorem small_bound {a : Fr} {n o : Bool} (h : boundS a n o = true) : a.small = true := by
 cases n with
 | false => exact small_ok (bound_ok h)
 | true => rw [(bound_no h).1]; decide
def k1 (g : Sp → PVal) : List PVal → Option PVal
 | [a] => match decSp a with | some x => if goodB x = true then some (g x) else none | none => none
 | _ => none
def k2 (g : Sp → Sp → PVal) : List PVal → Option PVal
 | [a, b] => match decSp a, decSp b with | some x, some y => if (goodB x && goodB y) = true then some (g x y) else none | _, _ => none
 | _ => none
theorem k1_at {g : Sp → PVal} {x : Sp} (h : x.wf) (hg : x.good) : k1 g [x.enc] = some (g x) := by simp only [k1, decSp_enc h, goodB_iff.2 hg, if_true]
theorem k2_at {g : Sp → Sp → PVal} {x y : Sp} (h : x.wf) (h2 : y.wf) (hg : x.good) (hg2 : y.good) : k2 g [x.enc, y.enc] = some (g x y) := by simp only [k2, decSp_enc h, decSp_enc h2, goodB_iff.2 hg, goodB_iff.2 hg2, Bool.and_self, if_true]
theorem k1_some {g : Sp → PVal} {args : List PVal} {z : PVal} (h : k1 g args = some z) : ∃ x : Sp, x.wf ∧ x.good ∧ args = [x.enc] ∧ z = g x := by
 unfold k1 at h
 split at h
 ·split at h
  ·rename_i x hx
   obtain ⟨rfl, w⟩ := decSp_some hx
   split at h
   ·rename_i hg
    cases h
    exact ⟨x, w, goodB_iff.1 hg, rfl, rfl⟩
   ·cases h
  ·cases h
 ·cases h
theorem k2_some {g : Sp → Sp → PVal} {args : List PVal} {z : PVal} (h : k2 g args = some z) : ∃ x y : Sp, x.wf ∧ y.wf ∧ x.good ∧ y.good ∧ args = [x.enc, y.enc] ∧ z = g x y := by
 unfold k2 at h
 split at h
 ·split at h
  ·rename_i x y hx hy
   obtain ⟨rfl, w⟩ := decSp_some hx
   obtain ⟨rfl, w2⟩ := decSp_some hy
   split at h
   ·rename_i hg
    rw [Bool.and_eq_true] at hg
    cases h
    exact ⟨x, y, w, w2, goodB_iff.1 hg.1, goodB_iff.1 hg.2, rfl, rfl⟩
   ·cases h
  ·cases h
 ·cases h
def Tfown : Tab := Tab.none.with 86 (pureS sOwn)
theorem Tfown_ok : TabOk Tryz.prog base Tfown := Tab.with_ok Tab.none_ok lown_ok
theorem Tfown_mu (f : FuncId) (a : List AVal) (H : Heap) : Tfown.mu f a H = none := (rfl)
theorem Tfown_fns : Tfown.fn 86 = (pureS sOwn) := (rfl)
theorem fown_ok : FnOk Tryz.prog base 137 (pureS (k1 Sp.enc)) := by
 refine pure_of_vc hmix Tfown_ok globNone low137 fun args z hs hf => ?_
 obtain ⟨x, wx, gx, rfl, rfl⟩ := k1_some hs
 refine ⟨by simp [lf137], ?_⟩
 have v1 := sOwn_at wx.1 (small_bound gx.1)
 have v2 := sOwn_at wx.2 (small_bound gx.2)
 simp only [Sp.enc, Fr.enc] at v1 v2 ⊢
 simp [lf137, v1, v2, fillS, Tfown_mu, Tfown_fns]
 rw [vc_regionW]
 refine ⟨[], ?_⟩
 simp [lf137, v1, v2, getA, getA0, setA, setA0, fillS, Tfown_mu, Tfown_fns]
theorem only3 {a b c d e : Ent} {r s : Heap} (k : Nat) (hk : k < 4) (hn : ¬ k = 3) : (a :: b :: c :: d :: r)[k]? = (a :: b :: c :: e :: s)[k]? := by
 rcases k with _ | _ | _ | _ | k
 ·rfl
 ·rfl
 ·rfl
 ·omega
 ·omega
def bothP (a b : Sp) : PVal := (bothS a b).enc
def Tfboth : Tab := ((Tab.none.with 177 (pureS (p2 laterP))).with 135 (pureS (p2 soonerP))).with 137 (pureS (k1 Sp.enc))
theorem Tfboth_ok : TabOk Tryz.prog base Tfboth := Tab.with_ok (Tab.with_ok (Tab.with_ok Tab.none_ok flater_ok) fsooner_ok) fown_ok
theorem Tfboth_mu (f : FuncId) (a : List AVal) (H : Heap) : Tfboth.mu f a H = none := (rfl)
theorem Tfboth_fns : Tfboth.fn 177 = (pureS (p2 laterP)) ∧ Tfboth.fn 135 = (pureS (p2 soonerP)) ∧ Tfboth.fn 137 = (pureS (k1 Sp.enc)) := ⟨rfl, rfl, rfl⟩
set_option maxHeartbeats 1000000 in
theorem fboth_ok : FnOk Tryz.prog base 134 (pureS (k2 bothP)) := by
 refine pure_of_vc hmix Tfboth_ok globNone low134 fun args z hs hf => ?_
 obtain ⟨x, y, wx, wy, gx, gy, rfl, rfl⟩ := k2_some hs
 refine ⟨by simp [lf134], ?_⟩
 have v1 : p2 laterP [y.enc, x.enc] = some (.bool (laterS y x)) := p2_at wy wx
 have v2 : p2 soonerP [y.enc, x.enc] = some (.bool (soonerS y x)) := p2_at wy wx
 have v3 : k1 Sp.enc [(bothS x y).enc] = some (bothS x y).enc := k1_at (both_wf wx wy) (both_good gx gy)
 unfold bothP
 unfold bothS at v3 ⊢
 obtain ⟨b1, h1⟩ : ∃ b, b = laterS y x := ⟨_, rfl⟩
 obtain ⟨b2, h2⟩ : ∃ b, b = soonerS y x := ⟨_, rfl⟩
 rw [← h1] at v1 v3 ⊢
 rw [← h2] at v2 v3 ⊢
 cases b1 <;> cases b2 <;> simp only [Sp.enc, Fr.enc, Bool.false_eq_true, if_true, if_false] at v1 v2 v3 ⊢
 ·simp [lf134, v1, v2, v3, getA, getA0, setA, setA0, fillS, Tfboth_mu, Tfboth_fns]
 ·simp [lf134, v1, v2, v3, getA, getA0, setA, setA0, fillS, Tfboth_mu, Tfboth_fns]
  rw [vc_regionW]
  refine ⟨[3], ?_⟩
  simp [lf134, v1, v2, v3, getA, getA0, setA, setA0, fillS, Tfboth_mu, Tfboth_fns]
  exact ⟨only3, only3⟩
 ·simp [lf134, v1, v2, v3, getA, getA0, setA, setA0, fillS, Tfboth_mu, Tfboth_fns]
  rw [vc_regionW]
  refine ⟨[3], ?_⟩
  simp [lf134, v1, v2, v3, getA, getA0, setA, setA0, fillS, Tfboth_mu, Tfboth_fns]
  exact ⟨only3, only3⟩
 ·simp [lf134, v1, v2, v3, getA, getA0, setA, setA0, fillS, Tfboth_mu, Tfboth_fns]
  rw [vc_regionW]
  refine ⟨[3], ?_⟩
  simp [lf134, v1, v2, v3, getA, getA0, setA, setA0, fillS, Tfboth_mu, Tfboth_fns]
  refine ⟨only3, only3, ?_⟩
  rw [vc_regionW]
  refine ⟨[3], ?_⟩
  simp [lf134, v1, v2, v3, getA, getA0, setA, setA0, fillS, Tfboth_mu, Tfboth_fns]
  exact ⟨only3, only3⟩
end Go.Proofs.YtepfpgnjpkcgmaaGreat

/-
 Sets of spans: what is in both: the walk.
-/
namespace Go.Proofs.YtepfpgnjpkcgmaaGreat
open Go Go.Abs Go.Limbs
variable {base : Prot}
set_option maxRecDepth 20000
attribute [local irreducible] vc
attribute [local simp] pureS touchV freezeL fuel shiftV u64 au
def lvarA : AVal → Nat
 | .p (.lst l) => l.length
 | _ => 0
def fewSs (n : Nat) (l : List Sp) : Bool := decide (l.length ≤ n)
def ks2 (n : Nat) (g : List Sp → List Sp → PVal) : List PVal → Option PVal
 | [.lst vs, .lst ws] => match decSs vs, decSs ws with | some l, some m => if (fewSs n l && fewSs n m) = true then some (g l m) else none | _, _ => none
 | _ => none
theorem ks2_at {n : Nat} {g : List Sp → List Sp → PVal} {l m : List Sp} (h : wfSs l) (h' : wfSs m) (f : fewSs n l = true) (f' : fewSs n m = true) : ks2 n g [.lst (l.map Sp.enc), .lst (m.map Sp.enc)] = some (g l m) := by simp only [ks2, decSs_enc h, decSs_enc h', f, f', Bool.and_self, if_true]
theorem ks2_some {n : Nat} {g : List Sp → List Sp → PVal} {args : List PVal} {z : PVal} (h : ks2 n g args = some z) : ∃ l m : List Sp, wfSs l ∧ wfSs m ∧ l.length ≤ n ∧ m.length ≤ n ∧ args = [.lst (l.map Sp.enc), .lst (m.map Sp.enc)] ∧ z = g l m := by
 unfold ks2 at h
 split at h
 ·split at h
  ·rename_i l m hl hm
   obtain ⟨rfl, w⟩ := decSs_some hl
   obtain ⟨rfl, w'⟩ := decSs_some hm
   split at h
   ·rename_i hf
    rw [Bool.and_eq_true] at hf
    cases h
    exact ⟨l, m, w, w', of_decide_eq_true hf.1, of_decide_eq_true hf.2, rfl, rfl⟩
   ·cases h
  ·cases h
 ·cases h
def ks1 (n : Nat) (g : List Sp → PVal) : List PVal → Option PVal
 | [.lst vs] => match decSs vs with | some l => if fewSs n l = true then some (g l) else none | none => none
 | _ => none
theorem ks1_at {n : Nat} {g : List Sp → PVal} {l : List Sp} (h : wfSs l) (f : fewSs n l = true) : ks1 n g [.lst (l.map Sp.enc)] = some (g l) := by simp only [ks1, decSs_enc h, f, if_true]
theorem ks1_some {n : Nat} {g : List Sp → PVal} {args : List PVal} {z : PVal} (h : ks1 n g args = some z) : ∃ l : List Sp, wfSs l ∧ l.length ≤ n ∧ args = [.lst (l.map Sp.enc)] ∧ z = g l := by
 unfold ks1 at h
 split at h
 ·split at h
  ·rename_i l hl
   obtain ⟨rfl, w⟩ := decSs_some hl
   split at h
   ·rename_i hf
    cases h
    exact ⟨l, w, of_decide_eq_true hf, rfl, rfl⟩
   ·cases h
  ·cases h
 ·cases h
theorem sizeOk_cons {n : Nat} {x : PVal} {l : List PVal} : sizeOk n (x :: l) = ((x.cells.length == n) && sizeOk n l) := (rfl)
theorem sizeOk_sp : ∀ l : List Sp, sizeOk 10 (l.map Sp.enc) = true
 | [] => rfl
 | _ :: r => sizeOk_sp r
def meetP (s u : List Sp) : PVal := .lst ((meetL s u).map Sp.enc)
theorem meetS_cons {a b : Sp} {s u : List Sp} : meetS (a :: s) (b :: u) = (if someS (bothS a b) = true then [bothS a b] else []) ++ (if soonerS a b = true then meetS s (b :: u) else meetS (a :: s) u) := by
 rw [meetS]
 split <;> rfl
def Tfmeet : Tab := (((Tab.none.with 60 (pureS (s1 validS))).with 134 (pureS (k2 bothP))).with 131 (pureS (p1 someP))).with 135 (pureS (p2 soonerP))
theorem Tfmeet_ok : TabOk Tryz.prog base Tfmeet := Tab.with_ok (Tab.with_ok (Tab.with_ok (Tab.with_ok Tab.none_ok fvalid_ok) fboth_ok) fsome_ok) fsooner_ok
theorem Tfmeet_mu (f : FuncId) (a : List AVal) (H : Heap) : Tfmeet.mu f a H = none := (rfl)
theorem Tfmeet_fns : Tfmeet.fn 60 = (pureS (s1 validS)) ∧ Tfmeet.fn 134 = (pureS (k2 bothP)) ∧ Tfmeet.fn 131 = (pureS (p1 someP)) ∧ Tfmeet.fn 135 = (pureS (p2 soonerP)) := ⟨rfl, rfl, rfl, rfl⟩
set_option maxHeartbeats 2000000 in
theorem fmeet_ok : FnOk Tryz.prog base 63 (pureS (ks2 100000 meetP)) := by
 refine pure_of_vc hmix Tfmeet_ok globNone low63 fun args z hs hf => ?_
 obtain ⟨s, u, ws, wu, ls, lu, rfl, rfl⟩ := ks2_some hs
 refine ⟨by simp [lf63], ?_⟩
 have hm := maxLen_ge
 have v1 : s1 validS [.lst (s.map Sp.enc)] = some (.bool (validP none s)) := s1_at ws
 have v2 : s1 validS [.lst (u.map Sp.enc)] = some (.bool (validP none u)) := s1_at wu
 unfold meetP meetL
 cases h1 : validP none s with
 | false => rw [h1] at v1; simp [lf63, v1, fillS, Tfmeet_mu, Tfmeet_fns]
 | true =>
 rw [h1] at v1
 cases h2 : validP none u with
 | false => rw [h2] at v2; simp [lf63, v1, v2, fillS, Tfmeet_mu, Tfmeet_fns]
 | true =>
 rw [h2] at v2
 have gs := (valid_iff.1 h1).1
 have gu := (valid_iff.1 h2).1
 obtain ⟨r, hr⟩ : ∃ r, r = meetS s u := ⟨_, rfl⟩
 simp only [Bool.and_self, if_true]
 rw [← hr]
 simp [lf63, v1, v2, fillS, Tfmeet_mu, Tfmeet_fns]
 simp only [lf63_B0, vc_block]
 refine loop_ind (fun fr H => ∃ (s' u' acc : List Sp) (x4 : AVal), fr 4 = x4 ∧ fr 0 = .p (.lst (s'.map Sp.enc)) ∧ fr 1 = .p (.lst (u'.map Sp.enc)) ∧ Grown 0 10 101 (acc.map Sp.enc) x4 H ∧
   r = acc ++ meetS s' u' ∧ wfSs s' ∧ wfSs u' ∧ (∀ x ∈ s', x.good) ∧ (∀ x ∈ u', x.good) ∧ acc.length + s'.length + u'.length ≤ 200000) (fun fr _ => lvarA (fr 0) + lvarA (fr 1))
  ⟨s, u, [], .tight [], by simp, by simp, by simp, by simp; exact .nil _ _ _ _, by rw [hr]; rfl, ws, wu, gs, gu, by simp; omega⟩ ?_
 rintro fr H ⟨s', u', acc, x4, f4, f0, f1', hg, hr', ws', wu', gs', gu', hl⟩
 cases s' with
 | nil =>
  rw [meetS, List.append_nil] at hr'
  subst hr'
  have hres := hg.resolve (pre := []) rfl 7
  rw [List.nil_append] at hres
  simp [f0, f1', f4, hres]
 | cons a s' =>
 cases u' with
 | nil =>
  rw [meetS, List.append_nil] at hr'
  subst hr'
  have hres := hg.resolve (pre := []) rfl 7
  rw [List.nil_append] at hres
  simp [f0, f1', f4, hres]
 | cons b u' =>
  rw [meetS_cons] at hr'
  have wa : a.wf := ws' a (by simp)
  have wb : b.wf := wu' b (by simp)
  have ga := gs' a (by simp)
  have gb := gu' b (by simp)
  have v3 : k2 bothP [a.enc, b.enc] = some (bothS a b).enc := k2_at wa wb ga gb
  have v4 : p1 someP [(bothS a b).enc] = some (.bool (someS (bothS a b))) := p1_at (both_wf wa wb)
  have v5 : p2 soonerP [a.enc, b.enc] = some (.bool (soonerS a b)) := p2_at wa wb
  obtain ⟨x, hx⟩ : ∃ x, x = bothS a b := ⟨_, rfl⟩
  obtain ⟨c1, hc1⟩ : ∃ c, c = someS x := ⟨_, rfl⟩
  obtain ⟨c2, hc2⟩ : ∃ c, c = soonerS a b := ⟨_, rfl⟩
  rw [← hx] at v3 v4 hr'
  rw [← hc1] at v4 hr'
  rw [← hc2] at v5 hr'
  simp only [List.length_cons] at hl
  simp only [Sp.enc, Fr.enc] at v3 v4 v5
  have hu1 : (1 : Int) ≤ (u'.length : Int) + 1 := by omega
  have hs1 : (1 : Int) ≤ (s'.length : Int) + 1 := by omega
  have wu1 : wfSs u' := fun y hy => wu' y (by simp [hy])
  have ws1 : wfSs s' := fun y hy => ws' y (by simp [hy])
  have gu1 : ∀ y ∈ u', y.good := fun y hy => gu' y (by simp [hy])
  have gs1 : ∀ y ∈ s', y.good := fun y hy => gs' y (by simp [hy])
  have hkeep : ∀ (r : Heap) (k : Nat), k < H.length → (H ++ r)[k]? = H[k]? := fun r k hk => List.getElem?_append_left hk
  have hnew : (acc ++ [x]).map Sp.enc = acc.map Sp.enc ++ [x.enc] := by rw [List.map_append]; rfl
  have hal : (acc.map Sp.enc).length ≤ 200000 := by simp; omega
  cases c1 with
  | true =>
   obtain ⟨k', v', ex', happ, hg'⟩ := (hg.more [⟨10, 0, false, [.p x.enc], 101⟩, ⟨10, 0, false, [.p x.enc], 101⟩]).app (pre := []) rfl (y := x.enc) rfl rfl (by omega) (bytes := 120) (by omega) (by omega)
   obtain ⟨acl, hacl⟩ : ∃ l, l = acc.map Sp.enc := ⟨_, rfl⟩
   rw [← hacl] at happ hg' hnew
   simp only [List.nil_append] at happ
   rw [← hnew] at hg'
   simp only [Sp.enc, Fr.enc] at happ
   rcases hg.form with rfl | ⟨kk, nn, vv, rfl⟩
   all_goals
    simp [f0, f1', f4, Sp.enc, Fr.enc, fillS, Tfmeet_mu, Tfmeet_fns]
    rw [vc_regionW]
    refine ⟨[], ?_⟩
    simp [f0, f1', f4, v3, v4, -appV, happ, Sp.enc, Fr.enc, getA, getA0, setA, setA0, fillS, Tfmeet_mu, Tfmeet_fns]
    refine ⟨hkeep _, ?_⟩
    cases c2
    ·simp only [Bool.false_eq_true, if_false, if_true] at hr'
     simp [v5, f0, f1', Sp.enc, Fr.enc, sizeOk_cons, sizeOk_sp, take_map, hu1, hs1, lvarA, Tfmeet_mu, Tfmeet_fns]
     exact ⟨a :: s', by simp [Sp.enc, Fr.enc], u', rfl, acc ++ [x], hg', by rw [hr']; simp, ws', wu1, gs', gu1, by simp; omega⟩
    ·simp only [Bool.false_eq_true, if_false, if_true] at hr'
     simp [v5, f0, f1', Sp.enc, Fr.enc, sizeOk_cons, sizeOk_sp, take_map, hu1, hs1, lvarA, Tfmeet_mu, Tfmeet_fns]
     exact ⟨s', rfl, b :: u', by simp [Sp.enc, Fr.enc], acc ++ [x], hg', by rw [hr']; simp, ws1, wu', gs1, gu', by simp; omega⟩
  | false =>
   simp [f0, f1', f4, Sp.enc, Fr.enc, fillS, Tfmeet_mu, Tfmeet_fns]
   rw [vc_regionW]
   refine ⟨[], ?_⟩
   simp [f0, f1', f4, v3, v4, Sp.enc, Fr.enc, getA, getA0, setA, setA0, fillS, Tfmeet_mu, Tfmeet_fns]
   refine ⟨hkeep _, ?_⟩
   cases c2
   ·simp only [Bool.false_eq_true, if_false, if_true] at hr'
    simp [v5, f0, f1', Sp.enc, Fr.enc, sizeOk_cons, sizeOk_sp, take_map, hu1, hs1, lvarA, Tfmeet_mu, Tfmeet_fns]
    exact ⟨a :: s', by simp [Sp.enc, Fr.enc], u', rfl, acc, (by first | exact hg.more _ | (rw [f4]; exact hg.more _)), by rw [hr']; simp, ws', wu1, gs', gu1, by simp; omega⟩
   ·simp only [Bool.false_eq_true, if_false, if_true] at hr'
    simp [v5, f0, f1', Sp.enc, Fr.enc, sizeOk_cons, sizeOk_sp, take_map, hu1, hs1, lvarA, Tfmeet_mu, Tfmeet_fns]
    exact ⟨s', rfl, b :: u', by simp [Sp.enc, Fr.enc], acc, (by first | exact hg.more _ | (rw [f4]; exact hg.more _)), by rw [hr']; simp, ws1, wu', gs1, gu', by simp; omega⟩
end Go.Proofs.YtepfpgnjpkcgmaaGreat

/-
 Sets of spans: what is not in one: the walk.
-/
namespace Go.Proofs.YtepfpgnjpkcgmaaGreat
open Go Go.Abs Go.Limbs
variable {base : Prot}
set_option maxRecDepth 20000
attribute [local irreducible] vc
attribute [local simp] pureS touchV freezeL fuel shiftV u64 au
def gapA (lo : Fr) (a1 a2 : AVal) (nl o1 : Bool) : AVal := .agg [.p (.bool lo.s), a1, a2, .p (.bool false), .tight [], .tight [], .p (.bool nl), .p (.bool false), .p (.bool o1), .p (.bool false)]
def GapOk (lo : Fr) (a1 a2 : AVal) : Prop := (a1 = .p (.lst (lo.n.map u64)) ∧ a2 = .p (.lst (lo.d.map u64))) ∨ (lo = zF ∧ a1 = .tight [] ∧ a2 = .tight [])
def OInv (l r : List Sp) (fr : AFr) (H : Heap) : Prop := ∃ (i : Nat) (lo : Fr) (nl o1 : Bool) (acc : List Sp) (ex : Heap) (a1 a2 x2 : AVal), H = ⟨10, 0, false, [gapA lo a1 a2 nl o1], 101⟩ :: ex ∧ GapOk lo a1 a2 ∧ fr 2 = x2 ∧ i ≤ l.length ∧ acc.length ≤ i ∧
 r = acc ++ otherS lo nl o1 (l.drop i) ∧ lo.wf ∧ boundS lo nl o1 = true ∧ Grown 1 10 101 (acc.map Sp.enc) x2 ex ∧ fr 3 = .optr 0 0 0 0 ∧ fr 10 = .p (.lst (l.map Sp.enc)) ∧ fr 11 = .p (.int .i64 l.length) ∧ fr 12 = .p (.int .i64 i)
theorem grown_app {b size : Nat} {ty : TypeId} {es : List PVal} {x : AVal} {ex : Heap} (h : Grown b size ty es x ex) (n : Heap) {y : PVal} (hy : y.cells.length = size) (hk : y.cells.all PVal.isCell = true) (hs : 0 < size) {bytes : Nat}
  (hB : (es.length + 1) * bytes ≤ 140737488355328) (hm : es.length + 1 ≤ maxLen) :
  ∃ X ex', (∀ pre : Heap, pre.length = b → appV size bytes ty x [.p y] (pre ++ (ex ++ n)) = some (X, pre ++ ex')) ∧ Grown b size ty (es ++ [y]) X ex' ∧ ∀ i e, n[i]? = some e → ex'[ex.length + i]? = some e := by
 have hc : ((AVal.p y).cells.length == size && (AVal.p y).cells.all AVal.isCell) = true := by
  simp only [AVal.cells, List.length_map, hy, beq_self_eq_true, Bool.true_and, List.all_map]
  exact hk
 have hall : ([AVal.p y].all fun y => y.cells.length == size && y.cells.all AVal.isCell) = true := by
  simp only [List.all_cons, List.all_nil, Bool.and_true]; exact hc
 rcases h with ⟨rfl, rfl⟩ | ⟨j, v, rfl, hj⟩
 ·refine ⟨.own (b + (ex ++ n).length) 0 1 0, (ex ++ n) ++ [⟨size, 0, false, [.p y], ty⟩], fun pre hb => ?_, .inr ⟨(ex ++ n).length, 0, rfl, by simp⟩, fun i e he => ?_⟩
  ·simp only [appV, hall, hs, and_self, if_true, List.isEmpty_nil, Bool.true_or, List.all_nil, List.length_nil, List.length_cons, Nat.zero_add, List.map_nil, List.nil_append, true_and]
   simp only [List.length_nil, Nat.zero_add] at hB hm
   rw [if_pos ⟨by simpa using hB, hm⟩]
   simp [hb]
  ·have := (List.getElem?_eq_some_iff.1 he).1
   rw [List.append_assoc, List.getElem?_append_right (by omega), Nat.add_sub_cancel_left, List.getElem?_append_left this]
   exact he
 ·have hjl := (List.getElem?_eq_some_iff.1 hj).1
  refine ⟨.own (b + j) 0 (es.length + 1) (v + 1), (ex ++ n).set j ⟨size, v + 1, false, es.map .p ++ [.p y], ty⟩, fun pre hb => ?_, .inr ⟨j, v + 1, by simp, by simp [show j < ex.length + n.length by omega]⟩, fun i e he => ?_⟩
  ·have hg : (pre ++ (ex ++ n))[b + j]? = some ⟨size, v, false, es.map .p, ty⟩ := by rw [List.getElem?_append_right (by omega), ← hb, Nat.add_sub_cancel_left, List.getElem?_append_left hjl]; exact hj
   simp only [appV, hall, hs, and_self, if_true, hg, List.length_map, List.length_cons, List.length_nil, Nat.zero_add, true_and]
   rw [if_pos ⟨hB, hm⟩, List.set_append_right _ _ (by omega), ← hb, Nat.add_sub_cancel_left]
  ·rw [List.getElem?_set_ne (by omega), List.getElem?_append_right (by omega), Nat.add_sub_cancel_left]
   exact he
theorem zero_only {a b : Ent} {r : Heap} {n : Nat} (k : Nat) (_ : k < n) (hn : ¬ k = 0) : (a :: r)[k]? = (b :: r)[k]? := by
 cases k with
 | zero => omega
 | succ k => rfl
def otherP (s : List Sp) : PVal := .lst ((otherL s).map Sp.enc)
def Tfother : Tab := (Tab.none.with 60 (pureS (s1 validS))).with 137 (pureS (k1 Sp.enc))
theorem Tfother_ok : TabOk Tryz.prog base Tfother := Tab.with_ok (Tab.with_ok Tab.none_ok fvalid_ok) fown_ok
theorem Tfother_mu (f : FuncId) (a : List AVal) (H : Heap) : Tfother.mu f a H = none := (rfl)
theorem Tfother_fns : Tfother.fn 60 = (pureS (s1 validS)) ∧ Tfother.fn 137 = (pureS (k1 Sp.enc)) := ⟨rfl, rfl⟩
set_option maxHeartbeats 2000000 in
theorem fother_ok : FnOk Tryz.prog base 67 (pureS (ks1 100000 otherP)) := by
 refine pure_of_vc hmix Tfother_ok globNone low67 fun args z hs hf => ?_
 obtain ⟨l, wl, ll, rfl, rfl⟩ := ks1_some hs
 refine ⟨by simp [lf67], ?_⟩
 have hm := maxLen_ge
 have v1 : s1 validS [.lst (l.map Sp.enc)] = some (.bool (validP none l)) := s1_at wl
 unfold otherP otherL
 cases h1 : validP none l with
 | false => rw [h1] at v1; simp [lf67, v1, fillS, Tfother_mu, Tfother_fns]
 | true =>
 rw [h1] at v1
 have gl := (valid_iff.1 h1).1
 obtain ⟨r, hr⟩ : ∃ r, r = otherS zF true false l := ⟨_, rfl⟩
 simp only [if_true]
 rw [← hr]
 simp [lf67, v1, fillS, Tfother_mu, Tfother_fns]
 simp only [lf67_B0, vc_block]
 refine loop_ind (OInv l r) (fun fr _ => l.length - ivar (fr 12))
  ⟨0, zF, true, false, [], [], .tight [], .tight [], .tight [], by simp [gapA, zF], .inr ⟨rfl, rfl, rfl⟩, by simp, by omega, by simp, by rw [hr]; rfl, wf_zF, by simp [boundS], by simp; exact .nil _ _ _ _, by simp, by simp, by simp, by simp⟩ ?_
 rintro fr H ⟨i, lo, nl, o1, acc, ex, a1, a2, x2, rfl, hgap, f2', hi, hacc, hr', wlo, hb, hg, f3, f10, f11, f12⟩
 have hgap' : (a1 = .p (.lst (lo.n.map u64)) ∧ a2 = .p (.lst (lo.d.map u64)) ∧ True ∧ True ∧ True) ∨ (a1 = .tight [] ∧ a2 = .tight [] ∧ lo.s = false ∧ lo.n = [] ∧ lo.d = []) := by
  rcases hgap with ⟨h, h'⟩ | ⟨h, h', h''⟩
  ·exact .inl ⟨h, h', trivial, trivial, trivial⟩
  ·exact .inr ⟨h', h'', by rw [h]; rfl, by rw [h]; rfl, by rw [h]; rfl⟩
 rcases hgap' with ⟨rfl, rfl, e1, e2, e3⟩ | ⟨rfl, rfl, e1, e2, e3⟩
 all_goals
  by_cases h2 : i < l.length
  ·obtain ⟨x, hx⟩ : ∃ x, l[i]? = some x := ⟨_, List.getElem?_eq_getElem h2⟩
   have hxe := getE hx
   have hw := wrap_succ (i := i) (by omega)
   have wx : x.wf := wl x (List.mem_of_getElem? hx)
   have gx : x.good := gl x (List.mem_of_getElem? hx)
   rw [List.drop_eq_getElem_cons h2, hxe, otherS] at hr'
   cases hn : x.nl with
   | true =>
    rw [hn] at hr'
    simp only [if_true] at hr'
    cases hh : x.nh with
    | true =>
     rw [hh] at hr'
     simp only [if_true, List.append_nil] at hr'
     subst hr'
     simp [f2', f3, f10, f11, f12, h2, hxe, hn, hh, e1, e2, e3, gapA, zF, Sp.enc, Fr.enc, fillS, getA, getA0, setA, setA0, Tfother_mu, Tfother_fns]
     exact (hg.more _).resolve (pre := [_]) rfl 7
    | false =>
     rw [hh] at hr'
     simp only [Bool.false_eq_true, if_false] at hr'
     simp [f2', f3, f10, f11, f12, h2, hxe, hn, hh, e1, e2, e3, gapA, zF, Sp.enc, Fr.enc, fillS, getA, getA0, setA, setA0, hw, ivar, Tfother_mu, Tfother_fns]
     refine ⟨?_, by omega⟩
     exact ⟨i + 1, x.hi, false, !x.o2, acc, _, _, _, _, by simp [gapA]; rfl, Or.inl ⟨rfl, rfl⟩, by simp [f2'], by omega, by omega, hr', wx.2, by have := gx.2; rw [hh] at this; exact this, hg.more _, by simp [f3], by simp [f10], by simp [f11], by simp⟩
   | false =>
    rw [hn] at hr'
    simp only [Bool.false_eq_true, if_false] at hr'
    have hal : (acc.map Sp.enc).length ≤ 200000 := by simp; omega
    have hnew : (acc ++ [(⟨lo, x.lo, nl, false, o1, !x.o1⟩ : Sp)]).map Sp.enc = acc.map Sp.enc ++ [Sp.enc ⟨lo, x.lo, nl, false, o1, !x.o1⟩] := by rw [List.map_append]; rfl
    have gy : Sp.good ⟨lo, x.lo, nl, false, o1, !x.o1⟩ := ⟨hb, by have := gx.1; rw [hn] at this; exact this⟩
    have v3 : k1 Sp.enc [Sp.enc ⟨lo, x.lo, nl, false, o1, !x.o1⟩] = some (Sp.enc ⟨lo, x.lo, nl, false, o1, !x.o1⟩) := k1_at ⟨wlo, wx.1⟩ gy
    simp only [e1, e2, e3, zF, List.map_nil, Sp.enc, Fr.enc] at v3
    obtain ⟨X, ex', happ, hg', hkp⟩ := grown_app hg [⟨10, 0, false, [.p x.enc], 101⟩, ⟨10, 0, false, [.p (Sp.enc ⟨lo, x.lo, nl, false, o1, !x.o1⟩)], 101⟩] (y := Sp.enc ⟨lo, x.lo, nl, false, o1, !x.o1⟩) rfl rfl (by omega) (bytes := 120) (by omega) (by omega)
    have happ1 := fun E : Ent => happ [E] rfl
    simp only [hn, e1, e2, e3, zF, List.map_nil, Sp.enc, Fr.enc, List.cons_append, List.nil_append] at happ1
    rw [← hnew] at hg'
    have hkx := hkp 0 _ rfl
    simp only [hn, Sp.enc, Fr.enc, Nat.add_zero] at hkx
    simp [f2', f3, f10, f11, f12, h2, hxe, hn, e1, e2, e3, gapA, zF, Sp.enc, Fr.enc, fillS, getA, getA0, setA, setA0, hw, ivar, v3, Tfother_mu, Tfother_fns]
    rw [vc_regionW]
    refine ⟨[0], ?_⟩
    simp [f2', f3, f10, f11, f12, h2, hxe, hn, e1, e2, e3, gapA, zF, Sp.enc, Fr.enc, fillS, -appV, happ1, hkx, getA, getA0, setA, setA0, hw, ivar, v3, Tfother_mu, Tfother_fns]
    refine ⟨zero_only, ?_⟩
    cases hh : x.nh with
    | true =>
     rw [hh] at hr' hkx
     simp only [if_true, ← List.append_assoc] at hr'
     simp [hkx, f2', f3, f10, f11, f12, hh, fillS, Tfother_mu, Tfother_fns]
     rw [hr']
     exact hg'.resolve (pre := [_]) rfl 7
    | false =>
     rw [hh] at hr' hkx
     simp only [Bool.false_eq_true, if_false] at hr'
     simp [hkx, f2', f3, f10, f11, f12, hh, fillS, hw, ivar, Tfother_mu, Tfother_fns]
     refine ⟨?_, by omega⟩
     exact ⟨i + 1, x.hi, false, !x.o2, acc ++ [⟨lo, x.lo, nl, false, o1, !x.o1⟩], _, _, _, _, by simp [gapA], Or.inl ⟨rfl, rfl⟩, by simp, by omega, by simp; omega, by rw [hr']; simp, wx.2, by have := gx.2; rw [hh] at this; exact this, hg', by simp [f3], by simp [f10], by simp [f11], by simp⟩
  ·have hil : i = l.length := by omega
   subst hil
   rw [List.drop_length, otherS] at hr'
   have v3 : k1 Sp.enc [Sp.enc ⟨lo, zF, nl, true, o1, false⟩] = some (Sp.enc ⟨lo, zF, nl, true, o1, false⟩) := k1_at ⟨wlo, wf_zF⟩ ⟨hb, by simp [boundS]⟩
   simp only [e1, e2, e3, zF, List.map_nil, Sp.enc, Fr.enc] at v3
   have hal : (acc.map Sp.enc).length ≤ 200000 := by simp; omega
   obtain ⟨X, ex', happ, hg', hkp⟩ := grown_app hg [⟨10, 0, false, [.p (Sp.enc ⟨lo, zF, nl, true, o1, false⟩)], 101⟩] (y := Sp.enc ⟨lo, zF, nl, true, o1, false⟩) rfl rfl (by omega) (bytes := 120) (by omega) (by omega)
   have happ1 := fun E : Ent => happ [E] rfl
   simp only [e1, e2, e3, zF, List.map_nil, Sp.enc, Fr.enc, List.cons_append, List.nil_append] at happ1
   simp [f2', f3, f10, f11, f12, v3, e1, e2, e3, gapA, zF, Sp.enc, Fr.enc, fillS, -appV, happ1, getA, getA0, setA, setA0, Tfother_mu, Tfother_fns]
   rw [hr']
   have hnew : (acc ++ [(⟨lo, zF, nl, true, o1, false⟩ : Sp)]).map Sp.enc = acc.map Sp.enc ++ [Sp.enc ⟨lo, zF, nl, true, o1, false⟩] := by rw [List.map_append]; rfl
   rw [hnew]
   exact hg'.resolve (pre := [_]) rfl 7
end Go.Proofs.YtepfpgnjpkcgmaaGreat

/-
  Sets of spans: what is in one of both; one number; another span of the reference's.
-/
namespace Go.Proofs.YtepfpgnjpkcgmaaGreat
open Go Go.Abs Go.Limbs
variable {base : Prot}
set_option maxRecDepth 20000
attribute [local irreducible] vc
attribute [local simp] pureS touchV freezeL fuel shiftV u64 au
theorem wf_meetS : ∀ (s u : List Sp), wfSs s → wfSs u → wfSs (meetS s u)
  | [], u, _, _ => by rw [meetS]; intro x hx; cases hx
  | _ :: _, [], _, _ => by rw [meetS]; intro x hx; cases hx
  | a :: s, b :: u, hs, hu => by
    rw [meetS_cons]
    intro x hx
    rcases List.mem_append.1 hx with hx | hx
    · split at hx
      · rw [List.mem_singleton] at hx
        subst hx
        exact both_wf (hs a (by simp)) (hu b (by simp))
      · cases hx
    · split at hx
      · exact wf_meetS s (b :: u) (fun y hy => hs y (by simp [hy])) hu x hx
      · exact wf_meetS (a :: s) u hs (fun y hy => hu y (by simp [hy])) x hx
termination_by s u => s.length + u.length
theorem len_meetS : ∀ (s u : List Sp), (meetS s u).length ≤ s.length + u.length
  | [], u => by rw [meetS]; simp
  | _ :: _, [] => by rw [meetS]; simp
  | a :: s, b :: u => by
    rw [meetS_cons]
    have h1 := len_meetS s (b :: u)
    have h2 := len_meetS (a :: s) u
    simp only [List.length_append, List.length_cons] at h1 h2 ⊢
    split <;> split <;> simp only [List.length_cons, List.length_nil] <;> omega
termination_by s u => s.length + u.length
theorem wf_otherS : ∀ (s : List Sp) (lo : Fr) (nl o1 : Bool), lo.wf → wfSs s → wfSs (otherS lo nl o1 s)
  | [], lo, nl, o1, hl, _ => by
    intro x hx
    rw [otherS, List.mem_singleton] at hx
    subst hx
    exact ⟨hl, wf_zF⟩
  | y :: r, lo, nl, o1, hl, hs => by
    have hy := hs y (by simp)
    have hr : wfSs (if y.nh = true then [] else otherS y.hi false (!y.o2) r) := by
      split
      · intro x hx; cases hx
      · exact wf_otherS r _ _ _ hy.2 fun z hz => hs z (by simp [hz])
    rw [otherS]
    split
    · exact hr
    · intro x hx
      rcases List.mem_cons.1 hx with rfl | hx
      · exact ⟨hl, hy.1⟩
      · exact hr x hx
theorem len_otherS : ∀ (s : List Sp) (lo : Fr) (nl o1 : Bool), (otherS lo nl o1 s).length ≤ s.length + 1
  | [], lo, nl, o1 => by simp [otherS]
  | y :: r, lo, nl, o1 => by
    have h := len_otherS r y.hi false (!y.o2)
    have hr : (if y.nh = true then [] else otherS y.hi false (!y.o2) r).length ≤ r.length + 1 := by
      split
      · simp
      · exact h
    rw [otherS]
    split
    · simp only [List.length_cons]; omega
    · simp only [List.length_cons]; omega
theorem wf_meetL {s u : List Sp} (hs : wfSs s) (hu : wfSs u) : wfSs (meetL s u) := by
  unfold meetL
  split
  · exact wf_meetS s u hs hu
  · intro x hx; cases hx
theorem wf_otherL {s : List Sp} (hs : wfSs s) : wfSs (otherL s) := by
  unfold otherL
  split
  · exact wf_otherS s _ _ _ wf_zF hs
  · intro x hx; cases hx
theorem len_meetL (s u : List Sp) : (meetL s u).length ≤ s.length + u.length := by
  unfold meetL
  split
  · exact len_meetS s u
  · simp
theorem len_otherL (s : List Sp) : (otherL s).length ≤ s.length + 1 := by
  unfold otherL
  split
  · exact len_otherS s _ _ _
  · simp
theorem wf_joinL {s u : List Sp} (hs : wfSs s) (hu : wfSs u) : wfSs (joinL s u) := by
  unfold joinL
  split
  · exact wf_otherL (wf_meetL (wf_otherL hs) (wf_otherL hu))
  · intro x hx; cases hx
def joinP (s u : List Sp) : PVal := .lst ((joinL s u).map Sp.enc)
def Tfjoin : Tab := ((Tab.none.with 60 (pureS (s1 validS))).with 63 (pureS (ks2 100000 meetP))).with 67 (pureS (ks1 100000 otherP))
theorem Tfjoin_ok : TabOk Tryz.prog base Tfjoin := Tab.with_ok (Tab.with_ok (Tab.with_ok Tab.none_ok fvalid_ok) fmeet_ok) fother_ok
theorem Tfjoin_mu (f : FuncId) (a : List AVal) (H : Heap) : Tfjoin.mu f a H = none := (rfl)
theorem Tfjoin_fns : Tfjoin.fn 60 = (pureS (s1 validS)) ∧ Tfjoin.fn 63 = (pureS (ks2 100000 meetP)) ∧ Tfjoin.fn 67 = (pureS (ks1 100000 otherP)) := ⟨rfl, rfl, rfl⟩
theorem fjoin_ok : FnOk Tryz.prog base 65 (pureS (ks2 1000 joinP)) := by
  refine pure_of_vc hmix Tfjoin_ok globNone low65 fun args z hs hf => ?_
  obtain ⟨s, u, ws, wu, ls, lu, rfl, rfl⟩ := ks2_some hs
  refine ⟨by simp [lf65], ?_⟩
  have v1 : s1 validS [.lst (s.map Sp.enc)] = some (.bool (validP none s)) := s1_at ws
  have v2 : s1 validS [.lst (u.map Sp.enc)] = some (.bool (validP none u)) := s1_at wu
  have h3 := len_otherL s
  have h4 := len_otherL u
  have h5 := len_meetL (otherL s) (otherL u)
  have v3 : ks1 100000 otherP [.lst (s.map Sp.enc)] = some (otherP s) := ks1_at ws (decide_eq_true (by omega))
  have v4 : ks1 100000 otherP [.lst (u.map Sp.enc)] = some (otherP u) := ks1_at wu (decide_eq_true (by omega))
  have v5 : ks2 100000 meetP [otherP s, otherP u] = some (meetP (otherL s) (otherL u)) := ks2_at (wf_otherL ws) (wf_otherL wu) (decide_eq_true (by omega)) (decide_eq_true (by omega))
  have v6 : ks1 100000 otherP [meetP (otherL s) (otherL u)] = some (otherP (meetL (otherL s) (otherL u))) := ks1_at (wf_meetL (wf_otherL ws) (wf_otherL wu)) (decide_eq_true (by omega))
  unfold joinP joinL
  cases h1 : validP none s with
  | false => rw [h1] at v1; simp [lf65, v1, fillS, Tfjoin_mu, Tfjoin_fns]
  | true =>
  rw [h1] at v1
  cases h2 : validP none u with
  | false => rw [h2] at v2; simp [lf65, v1, v2, fillS, Tfjoin_mu, Tfjoin_fns]
  | true =>
  rw [h2] at v2
  simp [lf65, v1, v2, v3, v4, v5, v6, fillS, Tfjoin_mu, Tfjoin_fns]
  rfl
def Tfpt : Tab := (Tab.none.with 89 (pureS (f1 boolF))).with 86 (pureS sOwn)
theorem Tfpt_ok : TabOk Tryz.prog base Tfpt := Tab.with_ok (Tab.with_ok Tab.none_ok qvalid_ok) lown_ok
theorem Tfpt_mu (f : FuncId) (a : List AVal) (H : Heap) : Tfpt.mu f a H = none := (rfl)
theorem Tfpt_fns : Tfpt.fn 89 = (pureS (f1 boolF)) ∧ Tfpt.fn 86 = (pureS sOwn) := ⟨rfl, rfl⟩
theorem fpoint_ok : FnOk Tryz.prog base 71 (pureS (f1 pointP)) := by
  refine pure_of_vc hmix Tfpt_ok globNone low71 fun args z hs hf => ?_
  obtain ⟨x, wx, rfl, rfl⟩ := f1_some hs
  refine ⟨by simp [lf71], ?_⟩
  have v := vF wx
  unfold pointP pointS
  cases h : x.ok with
  | false => rw [h] at v; simp only [Fr.enc] at v ⊢; simp [lf71, v, fillS, Tfpt_mu, Tfpt_fns]
  | true =>
    rw [h] at v
    have v2 := sOwn_ok wx h
    simp only [Fr.enc] at v v2 ⊢
    simp [lf71, v, fillS, Tfpt_mu, Tfpt_fns]
    rw [vc_regionW]
    refine ⟨[], ?_⟩
    simp [lf71, v, v2, Sp.enc, Fr.enc, fillS, getA, getA0, setA, setA0, Tfpt_mu, Tfpt_fns]
def Trmt : Tab := (Tab.none.with 133 (pureS (p1 okSP))).with 119 (pureS (f2 cmpP))
theorem Trmt_ok : TabOk Tryz.prog base Trmt := Tab.with_ok (Tab.with_ok Tab.none_ok rspan_ok) rCmp_ok
theorem Trmt_mu (f : FuncId) (a : List AVal) (H : Heap) : Trmt.mu f a H = none := (rfl)
theorem Trmt_fns : Trmt.fn 133 = (pureS (p1 okSP)) ∧ Trmt.fn 119 = (pureS (f2 cmpP)) := ⟨rfl, rfl⟩
def meetSp (a b : Sp) : PVal := .tup [(bothR a b).enc, .bool (okS (bothR a b))]
set_option maxHeartbeats 4000000 in
theorem rmeetsp_ok : FnOk Tryz.prog base 136 (pureS (p2 meetSp)) := by
  refine pure_of_vc hmix Trmt_ok globNone low136 fun args z hs hf => ?_
  obtain ⟨x, y, wx, wy, rfl, rfl⟩ := p2_some hs
  refine ⟨by simp [lf136], ?_⟩
  have v1 : f2 cmpP [x.lo.enc, y.lo.enc] = some (.int .i64 (cmpF x.lo y.lo)) := f2_at wx.1 wy.1
  have v2 : f2 cmpP [x.hi.enc, y.hi.enc] = some (.int .i64 (cmpF x.hi y.hi)) := f2_at wx.2 wy.2
  have v3 : p1 okSP [(bothR x y).enc] = some (.bool (okS (bothR x y))) := p1_at (bothR_wf wx wy)
  unfold meetSp
  obtain ⟨g, hg⟩ : ∃ g, g = okS (bothR x y) := ⟨_, rfl⟩
  rw [← hg] at v3 ⊢
  clear hg
  unfold bothR lowB highB at v3 ⊢
  obtain ⟨c, hc⟩ : ∃ c, c = cmpF x.lo y.lo := ⟨_, rfl⟩
  obtain ⟨d, hd⟩ : ∃ c, c = cmpF x.hi y.hi := ⟨_, rfl⟩
  rw [← hc] at v1 v3 ⊢
  rw [← hd] at v2 v3 ⊢
  clear hc hd
  obtain ⟨lo, hi, nl, nh, o1, o2⟩ := x
  obtain ⟨lo', hi', nl', nh', o1', o2'⟩ := y
  have ec : (c == 0) = decide (c = 0) := rfl
  have ed : (d == 0) = decide (d = 0) := rfl
  obtain ⟨c1, hc1⟩ : ∃ b, b = decide (c < 0) := ⟨_, rfl⟩
  obtain ⟨c2, hc2⟩ : ∃ b, b = decide (c = 0) := ⟨_, rfl⟩
  obtain ⟨d1, hd1⟩ : ∃ b, b = decide (0 < d) := ⟨_, rfl⟩
  obtain ⟨d2, hd2⟩ : ∃ b, b = decide (d = 0) := ⟨_, rfl⟩
  rw [← hc2] at ec
  rw [← hd2] at ed
  simp only [← hc1, ← hc2, ← hd1, ← hd2] at v3 ⊢
  simp only [Sp.enc, Fr.enc] at v1 v2 v3 ⊢
  have low : nl = true ∨ (nl = false ∧ nl' = true) ∨ (nl = false ∧ nl' = false ∧ c1 = true) ∨ (nl = false ∧ nl' = false ∧ c1 = false ∧ c2 = false) ∨ (nl = false ∧ nl' = false ∧ c1 = false ∧ c2 = true ∧ o1' = false) ∨ (nl = false ∧ nl' = false ∧ c1 = false ∧ c2 = true ∧ o1' = true) := by
    cases nl <;> cases nl' <;> cases c1 <;> cases c2 <;> cases o1' <;> simp
  have high : nh = true ∨ (nh = false ∧ nh' = true) ∨ (nh = false ∧ nh' = false ∧ d1 = true) ∨ (nh = false ∧ nh' = false ∧ d1 = false ∧ d2 = false) ∨ (nh = false ∧ nh' = false ∧ d1 = false ∧ d2 = true ∧ o2' = false) ∨ (nh = false ∧ nh' = false ∧ d1 = false ∧ d2 = true ∧ o2' = true) := by
    cases nh <;> cases nh' <;> cases d1 <;> cases d2 <;> cases o2' <;> simp
  rcases low with rfl | ⟨rfl, rfl⟩ | ⟨rfl, rfl, rfl⟩ | ⟨rfl, rfl, rfl, rfl⟩ | ⟨rfl, rfl, rfl, rfl, rfl⟩ | ⟨rfl, rfl, rfl, rfl, rfl⟩
  all_goals
    simp only [Bool.false_or, Bool.true_or, Bool.false_and, Bool.true_and, Bool.not_true, Bool.not_false, if_true, Bool.false_eq_true, if_false] at v3 ⊢
    simp [lf136, v1, v2, ← hc1, ec, fillS, Trmt_mu, Trmt_fns]
    try (rw [vc_regionW]; refine ⟨[3], ?_⟩; simp [lf136, v1, v2, ← hc1, ec, fillS, Trmt_mu, Trmt_fns]; first | refine ⟨only3, only3, ?_⟩ | refine ⟨only3, ?_⟩)
    rcases high with rfl | ⟨rfl, rfl⟩ | ⟨rfl, rfl, rfl⟩ | ⟨rfl, rfl, rfl, rfl⟩ | ⟨rfl, rfl, rfl, rfl, rfl⟩ | ⟨rfl, rfl, rfl, rfl, rfl⟩
  all_goals
    simp only [Bool.false_or, Bool.true_or, Bool.false_and, Bool.true_and, Bool.not_true, Bool.not_false, if_true, Bool.false_eq_true, if_false] at v3 ⊢
    simp [lf136, v1, v2, ← hd1, ed, fillS, Trmt_mu, Trmt_fns]
    rw [vc_regionW]
    first
    | (refine ⟨[3], ?_⟩; simp [lf136, v1, v2, v3, ← hd1, ed, fillS, Trmt_mu, Trmt_fns]; first | refine ⟨only3, only3, ?_⟩ | refine ⟨only3, ?_⟩
       rw [vc_regionW]; refine ⟨[], ?_⟩; simp [lf136, v1, v2, v3, ← hd1, ed, fillS, Trmt_mu, Trmt_fns]; done)
    | (refine ⟨[], ?_⟩; simp [lf136, v1, v2, v3, ← hd1, ed, fillS, Trmt_mu, Trmt_fns]; done)
end Go.Proofs.YtepfpgnjpkcgmaaGreat

/-
 Sets of spans: what is in both, in none, in one, as the reference says: the walk.
-/
namespace Go.Proofs.YtepfpgnjpkcgmaaGreat
open Go Go.Abs Go.Limbs
variable {base : Prot}
set_option maxRecDepth 20000
attribute [local irreducible] vc
attribute [local simp] pureS touchV freezeL fuel shiftV u64 au
def meetRL (s u : List Sp) : List Sp := if validP none s && validP none u then meetRS s u else []
theorem meetRL_eq (s u : List Sp) : meetRL s u = meetL s u := by
 unfold meetRL meetL
 cases h1 : validP none s with
 | false => rfl
 | true =>
  cases h2 : validP none u with
  | false => rfl
  | true => simp only [Bool.and_self, if_true]; exact meet_same h1 h2
theorem rowR_at {a b : Sp} {u : List Sp} {k : Nat} (h : u[k]? = some b) : rowR a (u.drop k) = (if okS (bothR a b) = true then [bothR a b] else []) ++ rowR a (u.drop (k + 1)) := by
 have hk := (List.getElem?_eq_some_iff.1 h).1
 rw [List.drop_eq_getElem_cons hk, getE h, rowR]
 split <;> rfl
theorem meetRS_at {a : Sp} {s u : List Sp} {i : Nat} (h : s[i]? = some a) : meetRS (s.drop i) u = rowR a u ++ meetRS (s.drop (i + 1)) u := by
 have hk := (List.getElem?_eq_some_iff.1 h).1
 rw [List.drop_eq_getElem_cons hk, getE h, meetRS]
def Trmeet : Tab := (Tab.none.with 61 (pureS (s1 validS))).with 136 (pureS (p2 meetSp))
theorem Trmeet_ok : TabOk Tryz.prog base Trmeet := Tab.with_ok (Tab.with_ok Tab.none_ok rfvalid_ok) rmeetsp_ok
theorem Trmeet_mu (f : FuncId) (a : List AVal) (H : Heap) : Trmeet.mu f a H = none := (rfl)
theorem Trmeet_fns : Trmeet.fn 61 = (pureS (s1 validS)) ∧ Trmeet.fn 136 = (pureS (p2 meetSp)) := ⟨rfl, rfl⟩
def MInv (s u r : List Sp) (fr : AFr) (H : Heap) : Prop := ∃ (i : Nat) (acc : List Sp) (x5 : AVal), fr 5 = x5 ∧ Grown 0 10 101 (acc.map Sp.enc) x5 H ∧ i ≤ s.length ∧ acc.length ≤ i * 1000 ∧ r = acc ++ meetRS (s.drop i) u ∧
 fr 0 = .p (.lst (s.map Sp.enc)) ∧ fr 1 = .p (.lst (u.map Sp.enc)) ∧ fr 6 = .p (.int .i64 i)
def NInv (s u r : List Sp) (i : Nat) (a : Sp) (fr : AFr) (H : Heap) : Prop := ∃ (k : Nat) (acc : List Sp) (x5 : AVal), fr 5 = x5 ∧ Grown 0 10 101 (acc.map Sp.enc) x5 H ∧ k ≤ u.length ∧ acc.length ≤ i * 1000 + k ∧ r = acc ++ (rowR a (u.drop k) ++ meetRS (s.drop (i + 1)) u) ∧
 fr 0 = .p (.lst (s.map Sp.enc)) ∧ fr 1 = .p (.lst (u.map Sp.enc)) ∧ fr 6 = .p (.int .i64 i) ∧ fr 7 = .p (.int .i64 k)
set_option maxHeartbeats 2000000 in
theorem rmeet_ok : FnOk Tryz.prog base 64 (pureS (ks2 1000 meetP)) := by
 refine pure_of_vc hmix Trmeet_ok globNone low64 fun args z hs hf => ?_
 obtain ⟨s, u, ws, wu, ls, lu, rfl, rfl⟩ := ks2_some hs
 refine ⟨by simp [lf64], ?_⟩
 have hm := maxLen_ge
 have v1 : s1 validS [.lst (s.map Sp.enc)] = some (.bool (validP none s)) := s1_at ws
 have v2 : s1 validS [.lst (u.map Sp.enc)] = some (.bool (validP none u)) := s1_at wu
 unfold meetP
 rw [← meetRL_eq]
 unfold meetRL
 cases h1 : validP none s with
 | false => rw [h1] at v1; simp [lf64, v1, fillS, Trmeet_mu, Trmeet_fns]
 | true =>
 rw [h1] at v1
 cases h2 : validP none u with
 | false => rw [h2] at v2; simp [lf64, v1, v2, fillS, Trmeet_mu, Trmeet_fns]
 | true =>
 rw [h2] at v2
 obtain ⟨r, hr⟩ : ∃ r, r = meetRS s u := ⟨_, rfl⟩
 simp only [Bool.and_self, if_true]
 rw [← hr]
 simp [lf64, v1, v2, fillS, Trmeet_mu, Trmeet_fns]
 simp only [lf64_B1, vc_block]
 refine loop_ind (MInv s u r) (fun fr _ => s.length - ivar (fr 6))
  ⟨0, [], .tight [], by simp, by simp; exact .nil _ _ _ _, by omega, by simp, by rw [hr]; rfl, by simp, by simp, by simp⟩ ?_
 rintro fr H ⟨i, acc, x5, f5, hg, hi, hal, hr', f0, f1', f6⟩
 by_cases hlt : i < s.length
 ·obtain ⟨a, ha⟩ : ∃ a, s[i]? = some a := ⟨_, List.getElem?_eq_getElem hlt⟩
  have hae := getE ha
  have wa : a.wf := ws a (List.mem_of_getElem? ha)
  have hwi := wrap_succ (i := i) (by omega)
  rw [meetRS_at ha] at hr'
  simp [f0, f1', f5, f6, hlt, fillS, Trmeet_mu, Trmeet_fns]
  simp only [lf64_B0, vc_block]
  refine loop_ind (NInv s u r i a) (fun fr _ => u.length - ivar (fr 7))
   ⟨0, acc, x5, by simp [f5], hg, by omega, by omega, hr', by simp [f0], by simp [f1'], by simp [f6], by simp⟩ ?_
  clear hg hal hr' f0 f1' f5 f6
  rintro fr2 H2 ⟨k, acc, x5, f5, hg, hk, hal, hr', f0, f1', f6, f7⟩
  by_cases hlk : k < u.length
  ·obtain ⟨b, hb⟩ : ∃ b, u[k]? = some b := ⟨_, List.getElem?_eq_getElem hlk⟩
   have hbe := getE hb
   have wb : b.wf := wu b (List.mem_of_getElem? hb)
   have hw := wrap_succ (i := k) (by omega)
   rw [rowR_at hb] at hr'
   have v3 : p2 meetSp [a.enc, b.enc] = some (.tup [(bothR a b).enc, .bool (okS (bothR a b))]) := p2_at wa wb
   obtain ⟨x, hx⟩ : ∃ x, x = bothR a b := ⟨_, rfl⟩
   obtain ⟨c1, hc1⟩ : ∃ c, c = okS x := ⟨_, rfl⟩
   rw [← hx] at v3 hr'
   rw [← hc1] at v3 hr'
   simp only [Sp.enc, Fr.enc] at v3
   have hkeep : ∀ (r : Heap) (k : Nat), k < H2.length → (H2 ++ r)[k]? = H2[k]? := fun r k hk => List.getElem?_append_left hk
   have hnew : (acc ++ [x]).map Sp.enc = acc.map Sp.enc ++ [x.enc] := by rw [List.map_append]; rfl
   have hal' : (acc.map Sp.enc).length ≤ 2000000 := by simp; omega
   simp [f0, f1', f5, f6, f7, hlk, hlt, Sp.enc, Fr.enc, fillS, Trmeet_mu, Trmeet_fns]
   rw [vc_regionW]
   refine ⟨[], ?_⟩
   cases c1 with
   | true =>
    simp only [if_true] at hr'
    obtain ⟨X, ex', happ, hg', -⟩ := grown_app hg [⟨10, 0, false, [.p x.enc], 101⟩, ⟨10, 0, false, [.p x.enc], 101⟩] (y := x.enc) rfl rfl (by omega) (bytes := 120) (by omega) (by omega)
    have happ1 := happ [] rfl
    simp only [Sp.enc, Fr.enc, List.nil_append] at happ1
    rw [← hnew] at hg'
    simp [f0, f1', f5, f6, f7, hlk, hlt, hae, hbe, v3, hw, ivar, -appV, happ1, Sp.enc, Fr.enc, getA, getA0, setA, setA0, fillS, Trmeet_mu, Trmeet_fns]
    refine ⟨hkeep _, ?_, by omega⟩
    exact ⟨k + 1, acc ++ [x], X, by simp, hg', by omega, by simp; omega, by rw [hr']; simp, by simp [f0], by simp [f1'], by simp [f6], by simp⟩
   | false =>
    simp only [Bool.false_eq_true, if_false, List.nil_append] at hr'
    simp [f0, f1', f5, f6, f7, hlk, hlt, hae, hbe, v3, hw, ivar, Sp.enc, Fr.enc, getA, getA0, setA, setA0, fillS, Trmeet_mu, Trmeet_fns]
    refine ⟨hkeep _, ?_, by omega⟩
    exact ⟨k + 1, acc, x5, by simp [f5], hg.more _, by omega, by omega, hr', by simp [f0], by simp [f1'], by simp [f6], by simp⟩
  ·have hkl : k = u.length := by omega
   rw [hkl, List.drop_length, rowR, List.nil_append] at hr'
   have hlk' : ¬ k < u.length := hlk
   simp [f0, f1', f5, f6, f7, hkl, hwi, ivar, Trmeet_mu, Trmeet_fns]
   exact ⟨⟨i + 1, acc, x5, by simp [f5], hg, by omega, by omega, hr', by simp [f0], by simp [f1'], by simp⟩, by omega⟩
 ·have hil : i = s.length := by omega
  rw [hil, List.drop_length, meetRS, List.append_nil] at hr'
  subst hr'
  simp [f0, f1', f5, f6, hil, Trmeet_mu, Trmeet_fns]
  exact hg.resolve (pre := []) rfl 7
def EqP (y : AVal) (e : PVal) : Prop := y.cells.all AVal.isCell = true ∧ ∀ H n, resolveV H (n + 1) y = some e
inductive All2 : List AVal → List PVal → Prop
 | nil : All2 [] []
 | cons {y e ys es} (h : EqP y e) (r : All2 ys es) : All2 (y :: ys) (e :: es)
theorem mapO_eq {H : Heap} {n : Nat} : ∀ {ys : List AVal} {es : List PVal}, All2 ys es → mapO (resolveV H (n + 1)) ys = some es
 | _, _, .nil => rfl
 | _, _, .cons h r => by simp only [mapO, h.2, mapO_eq r]
def GrownA (b size : Nat) (ty : TypeId) (es : List PVal) (x : AVal) (ex : Heap) : Prop :=
 (es = [] ∧ x = .tight []) ∨ ∃ j v ys, x = .own (b + j) 0 es.length v ∧ ex[j]? = some ⟨size, v, false, ys, ty⟩ ∧ All2 ys es
theorem GrownA.nil (b size : Nat) (ty : TypeId) (ex : Heap) : GrownA b size ty [] (.tight []) ex := .inl ⟨rfl, rfl⟩
theorem forall2_len {ys : List AVal} {es : List PVal} (h : All2 ys es) : ys.length = es.length := by
 induction h with
 | nil => rfl
 | cons _ _ ih => simp [ih]
theorem forall2_snoc {ys : List AVal} {es : List PVal} {y : AVal} {e : PVal} (h : All2 ys es) (he : EqP y e) : All2 (ys ++ [y]) (es ++ [e]) := by
 induction h with
 | nil => exact .cons he .nil
 | cons h _ ih => exact .cons h ih
theorem GrownA.resolve {b size : Nat} {ty : TypeId} {es : List PVal} {x : AVal} {ex pre : Heap} (h : GrownA b size ty es x ex) (hb : pre.length = b) (n : Nat) : resolveV (pre ++ ex) (n + 2) x = some (.lst es) := by
 rcases h with ⟨rfl, rfl⟩ | ⟨j, v, ys, rfl, hj, hy⟩
 ·rfl
 ·have : (pre ++ ex)[b + j]? = some ⟨size, v, false, ys, ty⟩ := by rw [List.getElem?_append_right (by omega), ← hb, Nat.add_sub_cancel_left]; exact hj
  have hl := forall2_len hy
  simp only [resolveV, this, Nat.zero_add, hl, Nat.le_refl, and_self, if_true, List.drop_zero]
  rw [List.take_of_length_le (by omega), mapO_eq hy]
theorem GrownA.more {b size : Nat} {ty : TypeId} {es : List PVal} {x : AVal} {ex : Heap} (h : GrownA b size ty es x ex) (n : Heap) : GrownA b size ty es x (ex ++ n) := by
 rcases h with h | ⟨j, v, ys, rfl, hj, hy⟩
 ·exact .inl h
 ·exact .inr ⟨j, v, ys, rfl, by rw [List.getElem?_append_left (List.getElem?_eq_some_iff.1 hj).1]; exact hj, hy⟩
theorem grownA_app {b size : Nat} {ty : TypeId} {es : List PVal} {x : AVal} {ex : Heap} (h : GrownA b size ty es x ex) (n : Heap) {y : AVal} {e : PVal} (he : EqP y e) (hy : y.cells.length = size) (hs : 0 < size) {bytes : Nat}
  (hB : (es.length + 1) * bytes ≤ 140737488355328) (hm : es.length + 1 ≤ maxLen) :
  ∃ X ex', (∀ pre : Heap, pre.length = b → appV size bytes ty x [y] (pre ++ (ex ++ n)) = some (X, pre ++ ex')) ∧ GrownA b size ty (es ++ [e]) X ex' ∧ ∀ i e, n[i]? = some e → ex'[ex.length + i]? = some e := by
 have hall : ([y].all fun y => y.cells.length == size && y.cells.all AVal.isCell) = true := by
  simp only [List.all_cons, List.all_nil, Bool.and_true, hy, he.1, beq_self_eq_true]
 rcases h with ⟨rfl, rfl⟩ | ⟨j, v, ys, rfl, hj, hys⟩
 ·refine ⟨.own (b + (ex ++ n).length) 0 1 0, (ex ++ n) ++ [⟨size, 0, false, [y], ty⟩], fun pre hb => ?_, .inr ⟨(ex ++ n).length, 0, [y], rfl, by simp, .cons he .nil⟩, fun i e he => ?_⟩
  ·simp only [appV, hall, hs, and_self, if_true, List.isEmpty_nil, Bool.true_or, List.all_nil, List.length_nil, List.length_cons, Nat.zero_add, List.map_nil, List.nil_append, true_and]
   simp only [List.length_nil, Nat.zero_add] at hB hm
   rw [if_pos ⟨by simpa using hB, hm⟩]
   simp [hb]
  ·have := (List.getElem?_eq_some_iff.1 he).1
   rw [List.append_assoc, List.getElem?_append_right (by omega), Nat.add_sub_cancel_left, List.getElem?_append_left this]
   exact he
 ·have hjl := (List.getElem?_eq_some_iff.1 hj).1
  have hl := forall2_len hys
  refine ⟨.own (b + j) 0 (es.length + 1) (v + 1), (ex ++ n).set j ⟨size, v + 1, false, ys ++ [y], ty⟩, fun pre hb => ?_, .inr ⟨j, v + 1, ys ++ [y], by simp, by simp [show j < ex.length + n.length by omega], forall2_snoc hys he⟩, fun i e he => ?_⟩
  ·have hg : (pre ++ (ex ++ n))[b + j]? = some ⟨size, v, false, ys, ty⟩ := by rw [List.getElem?_append_right (by omega), ← hb, Nat.add_sub_cancel_left, List.getElem?_append_left hjl]; exact hj
   simp only [appV, hall, hs, and_self, if_true, hg, hl, List.length_cons, List.length_nil, Nat.zero_add, true_and]
   rw [if_pos ⟨hB, hm⟩, List.set_append_right _ _ (by omega), ← hb, Nat.add_sub_cancel_left]
  ·rw [List.getElem?_set_ne (by omega), List.getElem?_append_right (by omega), Nat.add_sub_cancel_left]
   exact he
def gapV (lo : Fr) (a1 a2 : AVal) (hi : Fr) (b1 b2 : AVal) (nl nh o1 o2 : Bool) : AVal := mkAgg [.p (.bool lo.s), a1, a2, .p (.bool hi.s), b1, b2, .p (.bool nl), .p (.bool nh), .p (.bool o1), .p (.bool o2)]
theorem eqP_gapV {lo hi : Fr} {a1 a2 b1 b2 : AVal} {nl nh o1 o2 : Bool} (h : GapOk lo a1 a2) (h' : GapOk hi b1 b2) : EqP (gapV lo a1 a2 hi b1 b2 nl nh o1 o2) (Sp.enc ⟨lo, hi, nl, nh, o1, o2⟩) := by
 rcases h with ⟨rfl, rfl⟩ | ⟨rfl, rfl, rfl⟩ <;> rcases h' with ⟨rfl, rfl⟩ | ⟨rfl, rfl, rfl⟩ <;> exact ⟨rfl, fun H n => by cases n <;> rfl⟩
theorem gapV_len {lo hi : Fr} {a1 a2 b1 b2 : AVal} {nl nh o1 o2 : Bool} (h : GapOk lo a1 a2) (h' : GapOk hi b1 b2) : (gapV lo a1 a2 hi b1 b2 nl nh o1 o2).cells.length = 10 := by
 rcases h with ⟨rfl, rfl⟩ | ⟨rfl, rfl, rfl⟩ <;> rcases h' with ⟨rfl, rfl⟩ | ⟨rfl, rfl, rfl⟩ <;> rfl
def Trother : Tab := Tab.none.with 61 (pureS (s1 validS))
theorem Trother_ok : TabOk Tryz.prog base Trother := Tab.with_ok Tab.none_ok rfvalid_ok
theorem Trother_mu (f : FuncId) (a : List AVal) (H : Heap) : Trother.mu f a H = none := (rfl)
theorem Trother_fns : Trother.fn 61 = (pureS (s1 validS)) := (rfl)
def PInv (l r : List Sp) (fr : AFr) (H : Heap) : Prop := ∃ (i : Nat) (lo : Fr) (nl o1 : Bool) (acc : List Sp) (ex : Heap) (a1 a2 x2 : AVal), H = ⟨10, 0, false, [gapA lo a1 a2 nl o1], 101⟩ :: ex ∧ GapOk lo a1 a2 ∧ fr 4 = x2 ∧ i ≤ l.length ∧ acc.length ≤ i ∧
 r = acc ++ otherS lo nl o1 (l.drop i) ∧ lo.wf ∧ boundS lo nl o1 = true ∧ GrownA 1 10 101 (acc.map Sp.enc) x2 ex ∧ fr 3 = .optr 0 0 0 0 ∧ fr 0 = .p (.lst (l.map Sp.enc)) ∧ fr 5 = .p (.int .i64 i)
set_option maxHeartbeats 2000000 in
theorem rother_ok : FnOk Tryz.prog base 68 (pureS (ks1 100000 otherP)) := by
 refine pure_of_vc hmix Trother_ok globNone low68 fun args z hs hf => ?_
 obtain ⟨l, wl, ll, rfl, rfl⟩ := ks1_some hs
 refine ⟨by simp [lf68], ?_⟩
 have hm := maxLen_ge
 have v1 : s1 validS [.lst (l.map Sp.enc)] = some (.bool (validP none l)) := s1_at wl
 unfold otherP otherL
 cases h1 : validP none l with
 | false => rw [h1] at v1; simp [lf68, v1, fillS, Trother_mu, Trother_fns]
 | true =>
 rw [h1] at v1
 have gl := (valid_iff.1 h1).1
 obtain ⟨r, hr⟩ : ∃ r, r = otherS zF true false l := ⟨_, rfl⟩
 simp only [if_true]
 rw [← hr]
 simp [lf68, v1, fillS, Trother_mu, Trother_fns]
 simp only [lf68_B0, vc_block]
 refine loop_ind (PInv l r) (fun fr _ => l.length - ivar (fr 5))
  ⟨0, zF, true, false, [], [], .tight [], .tight [], .tight [], by simp [gapA, zF], .inr ⟨rfl, rfl, rfl⟩, by simp, by omega, by simp, by rw [hr]; rfl, wf_zF, by simp [boundS], by simp; exact GrownA.nil _ _ _ _, by simp, by simp, by simp⟩ ?_
 rintro fr H ⟨i, lo, nl, o1, acc, ex, a1, a2, x2, rfl, hgap, f2', hi, hacc, hr', wlo, hb, hg, f3, f10, f12⟩
 obtain ⟨A1, hA1⟩ : ∃ A, A = a1 := ⟨_, rfl⟩
 obtain ⟨A2, hA2⟩ : ∃ A, A = a2 := ⟨_, rfl⟩
 have hG : GapOk lo A1 A2 := by rw [hA1, hA2]; exact hgap
 have hgap' : (a1 = .p (.lst (lo.n.map u64)) ∧ a2 = .p (.lst (lo.d.map u64)) ∧ True ∧ True ∧ True) ∨ (a1 = .tight [] ∧ a2 = .tight [] ∧ lo.s = false ∧ lo.n = [] ∧ lo.d = []) := by
  rcases hgap with ⟨h, h'⟩ | ⟨h, h', h''⟩
  ·exact .inl ⟨h, h', trivial, trivial, trivial⟩
  ·exact .inr ⟨h', h'', by rw [h]; rfl, by rw [h]; rfl, by rw [h]; rfl⟩
 rcases hgap' with ⟨rfl, rfl, e1, e2, e3⟩ | ⟨rfl, rfl, e1, e2, e3⟩
 all_goals
  by_cases h2 : i < l.length
  ·obtain ⟨x, hx⟩ : ∃ x, l[i]? = some x := ⟨_, List.getElem?_eq_getElem h2⟩
   have hxe := getE hx
   have hw := wrap_succ (i := i) (by omega)
   have wx : x.wf := wl x (List.mem_of_getElem? hx)
   have gx : x.good := gl x (List.mem_of_getElem? hx)
   rw [List.drop_eq_getElem_cons h2, hxe, otherS] at hr'
   cases hn : x.nl with
   | true =>
    rw [hn] at hr'
    simp only [if_true] at hr'
    cases hh : x.nh with
    | true =>
     rw [hh] at hr'
     simp only [if_true, List.append_nil] at hr'
     subst hr'
     simp [f2', f3, f10, f12, h2, hxe, hn, hh, e1, e2, e3, gapA, zF, Sp.enc, Fr.enc, fillS, getA, getA0, setA, setA0, Trother_mu, Trother_fns]
     exact hg.resolve (pre := [_]) rfl 6
    | false =>
     rw [hh] at hr'
     simp only [Bool.false_eq_true, if_false] at hr'
     simp [f2', f3, f10, f12, h2, hxe, hn, hh, e1, e2, e3, gapA, zF, Sp.enc, Fr.enc, fillS, getA, getA0, setA, setA0, hw, ivar, Trother_mu, Trother_fns]
     rw [vc_regionW]
     refine ⟨[], ?_⟩
     simp [f2', f3, f10, f12, h2, hxe, hn, hh, e1, e2, e3, gapA, zF, Sp.enc, Fr.enc, fillS, getA, getA0, setA, setA0, hw, ivar, Trother_mu, Trother_fns]
     refine ⟨?_, by omega⟩
     exact ⟨i + 1, x.hi, false, !x.o2, acc, _, _, _, _, by simp [gapA], Or.inl ⟨rfl, rfl⟩, by simp [f2'], by omega, by omega, hr', wx.2, by have := gx.2; rw [hh] at this; exact this, hg.more [], by simp [f3], by simp [f10], by simp⟩
   | false =>
    rw [hn] at hr'
    simp only [Bool.false_eq_true, if_false] at hr'
    have hal : (acc.map Sp.enc).length ≤ 200000 := by simp; omega
    have hnew : (acc ++ [(⟨lo, x.lo, nl, false, o1, !x.o1⟩ : Sp)]).map Sp.enc = acc.map Sp.enc ++ [Sp.enc ⟨lo, x.lo, nl, false, o1, !x.o1⟩] := by rw [List.map_append]; rfl
    obtain ⟨X, ex', happ, hg', -⟩ := grownA_app hg [⟨10, 0, false, [gapV lo A1 A2 x.lo (.p (.lst (x.lo.n.map u64))) (.p (.lst (x.lo.d.map u64))) nl false o1 (!x.o1)], 101⟩] (eqP_gapV (lo := lo) (hi := x.lo) (nl := nl) (nh := false) (o1 := o1) (o2 := !x.o1) hG (.inl ⟨rfl, rfl⟩)) (gapV_len hG (.inl ⟨rfl, rfl⟩)) (by omega) (bytes := 120) (by omega) (by omega)
    have happ1 := fun E : Ent => happ [E] rfl
    simp only [gapV, hA1, hA2, hn, e1, e2, e3, mkAgg, allP, zF, List.map_nil, Sp.enc, Fr.enc, List.cons_append, List.nil_append] at happ1
    rw [← hnew] at hg'
    simp [f2', f3, f10, f12, h2, hxe, hn, e1, e2, e3, gapA, zF, Sp.enc, Fr.enc, fillS, getA, getA0, setA, setA0, hw, ivar, Trother_mu, Trother_fns]
    rw [vc_regionW]
    refine ⟨[0], ?_⟩
    simp [f2', f3, f10, f12, h2, hxe, hn, e1, e2, e3, gapA, zF, Sp.enc, Fr.enc, fillS, -appV, happ1, getA, getA0, setA, setA0, hw, ivar, Trother_mu, Trother_fns]
    refine ⟨zero_only, ?_⟩
    cases hh : x.nh with
    | true =>
     rw [hh] at hr'
     simp only [if_true, ← List.append_assoc] at hr'
     simp [f2', f3, f10, f12, hh, hxe, h2, getA, getA0, setA, setA0, fillS, Trother_mu, Trother_fns]
     rw [hr']
     exact hg'.resolve (pre := [_]) rfl 6
    | false =>
     rw [hh] at hr'
     simp only [Bool.false_eq_true, if_false] at hr'
     simp [f2', f3, f10, f12, hh, hxe, h2, getA, getA0, setA, setA0, fillS, hw, ivar, Trother_mu, Trother_fns]
     rw [vc_regionW]
     refine ⟨[], ?_⟩
     simp [f2', f3, f10, f12, hh, hn, hxe, h2, Sp.enc, Fr.enc, getA, getA0, setA, setA0, fillS, hw, ivar, Trother_mu, Trother_fns]
     refine ⟨?_, by omega⟩
     exact ⟨i + 1, x.hi, false, !x.o2, acc ++ [⟨lo, x.lo, nl, false, o1, !x.o1⟩], _, _, _, _, by simp [gapA], Or.inl ⟨rfl, rfl⟩, by simp, by omega, by simp; omega, by rw [hr']; simp, wx.2, by have := gx.2; rw [hh] at this; exact this, hg', by simp [f3], by simp [f10], by simp⟩
  ·have hil : i = l.length := by omega
   subst hil
   rw [List.drop_length, otherS] at hr'
   have hal : (acc.map Sp.enc).length ≤ 200000 := by simp; omega
   have hz : GapOk zF (.tight []) (.tight []) := .inr ⟨rfl, rfl, rfl⟩
   obtain ⟨X, ex', happ, hg', -⟩ := grownA_app hg [⟨10, 0, false, [gapV lo A1 A2 zF (.tight []) (.tight []) nl true o1 false], 101⟩] (eqP_gapV (nl := nl) (nh := true) (o1 := o1) (o2 := false) hG hz) (gapV_len hG hz) (by omega) (bytes := 120) (by omega) (by omega)
   have happ1 := fun E : Ent => happ [E] rfl
   simp only [gapV, hA1, hA2, e1, e2, e3, mkAgg, allP, zF, List.map_nil, Sp.enc, Fr.enc, List.cons_append, List.nil_append] at happ1
   simp [f2', f3, f10, f12, e1, e2, e3, gapA, zF, Sp.enc, Fr.enc, fillS, -appV, happ1, getA, getA0, setA, setA0, Trother_mu, Trother_fns]
   rw [hr']
   have hnew : (acc ++ [(⟨lo, zF, nl, true, o1, false⟩ : Sp)]).map Sp.enc = acc.map Sp.enc ++ [Sp.enc ⟨lo, zF, nl, true, o1, false⟩] := by rw [List.map_append]; rfl
   rw [hnew]
   exact hg'.resolve (pre := [_]) rfl 6
def Trjoin : Tab := ((Tab.none.with 61 (pureS (s1 validS))).with 64 (pureS (ks2 1000 meetP))).with 68 (pureS (ks1 100000 otherP))
theorem Trjoin_ok : TabOk Tryz.prog base Trjoin := Tab.with_ok (Tab.with_ok (Tab.with_ok Tab.none_ok rfvalid_ok) rmeet_ok) rother_ok
theorem Trjoin_mu (f : FuncId) (a : List AVal) (H : Heap) : Trjoin.mu f a H = none := (rfl)
theorem Trjoin_fns : Trjoin.fn 61 = (pureS (s1 validS)) ∧ Trjoin.fn 64 = (pureS (ks2 1000 meetP)) ∧ Trjoin.fn 68 = (pureS (ks1 100000 otherP)) := ⟨rfl, rfl, rfl⟩
theorem rjoin_ok : FnOk Tryz.prog base 66 (pureS (ks2 900 joinP)) := by
 refine pure_of_vc hmix Trjoin_ok globNone low66 fun args z hs hf => ?_
 obtain ⟨s, u, ws, wu, ls, lu, rfl, rfl⟩ := ks2_some hs
 refine ⟨by simp [lf66], ?_⟩
 have v1 : s1 validS [.lst (s.map Sp.enc)] = some (.bool (validP none s)) := s1_at ws
 have v2 : s1 validS [.lst (u.map Sp.enc)] = some (.bool (validP none u)) := s1_at wu
 have h3 := len_otherL s
 have h4 := len_otherL u
 have h5 := len_meetL (otherL s) (otherL u)
 have v3 : ks1 100000 otherP [.lst (s.map Sp.enc)] = some (otherP s) := ks1_at ws (decide_eq_true (by omega))
 have v4 : ks1 100000 otherP [.lst (u.map Sp.enc)] = some (otherP u) := ks1_at wu (decide_eq_true (by omega))
 have v5 : ks2 1000 meetP [otherP s, otherP u] = some (meetP (otherL s) (otherL u)) := ks2_at (wf_otherL ws) (wf_otherL wu) (decide_eq_true (by omega)) (decide_eq_true (by omega))
 have v6 : ks1 100000 otherP [meetP (otherL s) (otherL u)] = some (otherP (meetL (otherL s) (otherL u))) := ks1_at (wf_meetL (wf_otherL ws) (wf_otherL wu)) (decide_eq_true (by omega))
 unfold joinP joinL
 cases h1 : validP none s with
 | false => rw [h1] at v1; simp [lf66, v1, fillS, Trjoin_mu, Trjoin_fns]
 | true =>
 rw [h1] at v1
 cases h2 : validP none u with
 | false => rw [h2] at v2; simp [lf66, v1, v2, fillS, Trjoin_mu, Trjoin_fns]
 | true =>
 rw [h2] at v2
 simp [lf66, v1, v2, v3, v4, v5, v6, fillS, Trjoin_mu, Trjoin_fns]
 rfl
end Go.Proofs.YtepfpgnjpkcgmaaGreat
