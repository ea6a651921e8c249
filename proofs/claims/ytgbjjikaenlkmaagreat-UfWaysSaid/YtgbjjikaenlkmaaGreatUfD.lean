/-
  What uf.Lemma computes. No conditions beyond the lemmas' own hypotheses.
-/
import Derived.Test.YtgbjjikaenlkmaaGreatUfC
set_option linter.unusedSimpArgs false
set_option linter.unnecessarySimpa false
set_option linter.unusedVariables false
set_option linter.constructorNameAsVariable false

/-
 uf: the lemmas of two applications.
-/
namespace Go.Proofs.YtgbjjikaenlkmaaGreat
open Go Go.Abs Go.Limbs
variable {base : Prot}
set_option maxRecDepth 20000
attribute [local irreducible] vc
attribute [local simp] pureS touchV freezeL fuel shiftV u64 au
theorem mapO_pure (H : Heap) (n : Nat) : ∀ l : List PVal, mapO (resolveV H n) (l.map AVal.p) = some l
 | [] => rfl
 | x :: r => by simp [mapO, resolveV, mapO_pure H n r]
theorem touch_pure (H : Heap) (n : Nat) : ∀ l : List PVal, (l.map AVal.p).flatMap (touchV H n) = []
 | [] => rfl
 | x :: r => by rw [List.map_cons, List.flatMap_cons, touch_pure H n r]; cases n <;> simp [touchV]
theorem appV_own {size bytes k n ver : Nat} {fz : Bool} {ty : TypeId} {els ys : List AVal} {H : Heap} (hk : H[k]? = some ⟨size, ver, fz, els, ty⟩) (hc : ys.all (fun y => y.cells.length == size && y.cells.all AVal.isCell) = true) (hp : 0 < size) (hn : n = els.length) (h1 : (els.length + ys.length) * bytes ≤ 140737488355328) (h2 : els.length + ys.length ≤ maxLen) :
  appV size bytes ty (.own k 0 n ver) ys H = some (.own k 0 (n + ys.length) (ver + 1), H.set k ⟨size, ver + 1, fz, els ++ ys, ty⟩) := by
 unfold appV
 rw [if_pos ⟨hc, hp⟩]
 simp only [hk]
 rw [if_pos ⟨trivial, trivial, trivial, trivial, hn, h1, h2⟩]
def sortV (n : Int) : List Vr → Option Int
 | [] => none
 | g :: r => if g.id = n then some g.k else sortV n r
theorem look_sort (n : Int) : ∀ vs : List Vr, lookP n (vs.map kvV) = (sortV n vs).map (fun k => PVal.int .i64 k)
 | [] => rfl
 | g :: r => by
  simp only [List.map_cons, lookP, sortV, kvV]
  split
  ·rfl
  ·exact look_sort n r
def pairsOk (vs : List Vr) : List Int → List Int → Bool
 | [], [] => true
 | x :: l, y :: m => (match sortV x vs with
  | some s => (match sortV y vs with | some t => decide (s = t) && decide (0 ≤ mn2 (mn2 s x) y) | none => false)
  | none => false) && pairsOk vs l m
 | _, _ => false
theorem pairsOk_at {vs : List Vr} : ∀ {l m : List Int} {i : Nat} {x y : Int}, pairsOk vs l m = true → l[i]? = some x → m[i]? = some y → ∃ s, sortV x vs = some s ∧ sortV y vs = some s ∧ 0 ≤ mn2 (mn2 s x) y
 | [], _, i, x, y, _, hx, _ => by simp at hx
 | _ :: _, [], i, x, y, h, _, _ => by cases h
 | a :: l, b :: m, i, x, y, h, hx, hy => by
  simp only [pairsOk, Bool.and_eq_true] at h
  cases i with
  | zero =>
   simp at hx hy
   subst hx; subst hy
   obtain ⟨h, -⟩ := h
   split at h
   ·rename_i s hs
    split at h
    ·rename_i t ht
     simp only [Bool.and_eq_true, decide_eq_true_eq] at h
     obtain ⟨rfl, h2⟩ := h
     exact ⟨s, hs, ht, h2⟩
    ·cases h
   ·cases h
  | succ i => exact pairsOk_at h.2 (by simpa using hx) (by simpa using hy)
def outsL (vs : List Vr) : List Int → List Int → Option (List Li)
 | [], [] => some []
 | x :: l, y :: m => if x = y then outsL vs l m else match sortV x vs with
  | some s => (match eqA s x y with
   | some a => (match outsL vs l m with | some r => some (⟨a, true⟩ :: r) | none => none)
   | none => none)
  | none => none
 | _, _ => none
theorem outsL_wf {vs : List Vr} : ∀ {l m : List Int} {r : List Li}, outsL vs l m = some r → cLi.wfL r
 | [], [], r, h => by cases h; intro x hx; cases hx
 | x :: l, y :: m, r, h => by
  unfold outsL at h
  split at h
  ·exact outsL_wf h
  ·split at h
   ·split at h
    ·rename_i a ha
     split at h
     ·rename_i r' hr
      cases h
      intro z hz
      rcases List.mem_cons.1 hz with rfl | hz
      ·exact eqA_wf ha
      ·exact outsL_wf hr z hz
     ·cases h
    ·cases h
   ·cases h
 | [], _ :: _, _, h => by cases h
 | _ :: _, [], _, h => by cases h
theorem outsL_len {vs : List Vr} : ∀ {l m : List Int} {r : List Li}, outsL vs l m = some r → r.length ≤ l.length
 | [], [], r, h => by cases h; simp
 | x :: l, y :: m, r, h => by
  unfold outsL at h
  split at h
  ·have := outsL_len h; simp; omega
  ·split at h
   ·split at h
    ·split at h
     ·rename_i r' hr
      cases h
      have := outsL_len hr
      simp; omega
     ·cases h
    ·cases h
   ·cases h
 | [], _ :: _, _, h => by cases h
 | _ :: _, [], _, h => by cases h
def lemmaF (vs : List Vr) (a b : Md) : Option (List Li × List Li) :=
 if (a.few && b.few && decide (vs.length ≤ 1000000) && decide (a.f = b.f) && decide (a.ag.length = b.ag.length) && decide (a.id ≠ b.id) && pairsOk vs (a.id :: a.ag) (b.id :: b.ag)) = true then
  match outsL vs a.ag b.ag with
  | some (o :: out) => (match sortV a.id vs with
   | some s => (match endsF s a.id b.id with
    | some r => some (o :: out ++ r.1, if r.2.isEmpty then [] else o :: out ++ r.2)
    | none => none)
   | none => none)
  | _ => none
 else none
def lemmaP (vs : List Vr) (a b : Md) : Option PVal := match lemmaF vs a b with
 | some r => some (.tup [.lst (r.1.map cLi.enc), .lst (r.2.map cLi.enc), .int .i64 0])
 | none => none
def Tlm : Tab := (((Tab.none.with 20 sTabV).with 21 (pureS (sp3 cI cI cI eqAP))).with 22 (pureS (sp3 cI cI cI endsP))).with 23 (freshS 8 80 sClL)
theorem Tlm_ok : TabOk Tryz.prog base Tlm := Tab.with_ok (Tab.with_ok (Tab.with_ok (Tab.with_ok Tab.none_ok tabV_ok) ueq_ok) ends_ok) cloneLi_ok
theorem Tlm_mu (f : FuncId) (a : List AVal) (H : Heap) : Tlm.mu f a H = none := rfl
theorem Tlm_fns : Tlm.fn 20 = sTabV ∧ Tlm.fn 21 = pureS (sp3 cI cI cI eqAP) ∧ Tlm.fn 22 = pureS (sp3 cI cI cI endsP) ∧ Tlm.fn 23 = freshS 8 80 sClL := ⟨rfl, rfl, rfl, rfl⟩
theorem sTabV_at {gs : List Vr} (h : gs.length ≤ 1000000) : sTabV [.lst (gs.map cVr.enc)] = some (.omap 0 0, [⟨0, 0, false, tabP (gs.map kvV), 0⟩]) := by
 simp only [sTabV, cVr.deL gs (fun _ _ => trivial)]
 rw [if_pos (by omega)]
theorem lemma_ok : FnOk Tryz.prog base 9 (pureS (sp3 cVr.lst cMd cMd lemmaP)) := by
 refine pure_of_vcB hmix Tlm_ok globNone low9 fun args z hs hf => ?_
 obtain ⟨vs, a, b, -, -, -, rfl, hz⟩ := sp3_some hs
 unfold lemmaP at hz
 cases hl : lemmaF vs a b with
 | none => rw [hl] at hz; cases hz
 | some r =>
 rw [hl] at hz
 cases hz
 unfold lemmaF at hl
 split at hl
 case isFalse => cases hl
 rename_i hc
 simp only [Bool.and_eq_true, decide_eq_true_eq] at hc
 obtain ⟨⟨⟨⟨⟨⟨fa, fb⟩, hvl⟩, hff⟩, hla⟩, hid⟩, hpk⟩ := hc
 simp only [Md.few, decide_eq_true_eq] at fa fb
 obtain ⟨es, hes⟩ : ∃ es, es = tabP (vs.map kvV) := ⟨_, rfl⟩
 have ht := sTabV_at hvl
 rw [← hes] at ht
 have hsh : es.map (shiftV 2) = es := by rw [hes]; exact tabP_shift 2 _
 have hmf : ∀ n s, sortV n vs = some s → mfind n es = some (.int .i64 s) := fun n s h => by rw [hes, mfind_tabP, look_sort, h]; rfl
 obtain ⟨ai, af, aa⟩ := a
 obtain ⟨bi, bf, ba⟩ := b
 simp only at hff hla hid hpk hl fa fb
 subst hff
 have hbs : binS .neq af af = some (.bool false) := by simp [binS]
 have hbe : (ai == bi) = false := by simpa using hid
 have hmx : maxLen = 9223372036854775807 := rfl
 have hb1 : 1 + ba.length ≤ maxLen := by omega
 have hb2 : (1 + ba.length) * 8 ≤ 140737488355328 := by omega
 refine ⟨by simp [lf9], ?_⟩
 have hint : cI.enc = fun n => .int .i64 n := rfl
 simp only [cMd, Cd.lst, hint]
 simp [lf9, ht, hsh, shiftE, -shiftV, hla, hbs, hbe, Tlm_mu, Tlm_fns]
 rw [vc_regionN]
 refine ⟨[], ?_⟩
 simp [fillS, hla, hb1, hb2]
 refine ⟨keepT rfl, ?_⟩
 have hLa : AVal.p (PVal.int .i64 ai) :: List.map (AVal.p ∘ fun n => PVal.int .i64 n) aa = (ai :: aa).map (fun n => AVal.p (.int .i64 n)) := rfl
 have hLb : AVal.p (PVal.int .i64 bi) :: List.map (AVal.p ∘ fun n => PVal.int .i64 n) ba = (bi :: ba).map (fun n => AVal.p (.int .i64 n)) := rfl
 rw [hLa, hLb]
 obtain ⟨X, hX⟩ : ∃ X, X = ai :: aa := ⟨_, rfl⟩
 obtain ⟨Y, hY⟩ : ∃ Y, Y = bi :: ba := ⟨_, rfl⟩
 rw [← hX, ← hY] at hpk ⊢
 obtain ⟨N, hN⟩ : ∃ N, N = 1 + ba.length := ⟨_, rfl⟩
 have hXl : X.length = N := by rw [hX, hN]; simp; omega
 have hYl : Y.length = N := by rw [hY, hN]; simp; omega
 rw [← hN]
 obtain ⟨c4, hc4⟩ : ∃ c : Ent, c = ⟨3, 0, false, [.p (.agg [.int .i64 ai, .str af, .lst (aa.map fun n => .int .i64 n)])], 26⟩ := ⟨_, rfl⟩
 obtain ⟨c5, hc5⟩ : ∃ c : Ent, c = ⟨3, 0, false, [.p (.agg [.int .i64 bi, .str af, .lst (ba.map fun n => .int .i64 n)])], 26⟩ := ⟨_, rfl⟩
 rw [← hc4, ← hc5]
 simp only [lf9_B0, vc_block]
 refine loop_ind (fun fr G => ∃ i : Nat, i ≤ N ∧ G = [c4, c5, ⟨0, 0, false, es, 0⟩, ⟨1, 2, false, X.map (fun n => .p (.int .i64 n)), 3⟩, ⟨1, 2, false, Y.map (fun n => .p (.int .i64 n)), 3⟩] ∧ fr 4 = .optr 0 0 0 0 ∧ fr 5 = .optr 1 0 0 0 ∧ fr 9 = .omap 2 0 ∧ fr 11 = .own 4 0 N 2 ∧ fr 61 = .own 3 0 N 2 ∧ fr 62 = .p (.int .i64 N) ∧ fr 63 = .p (.int .i64 i)) (fun fr _ => N - ivar (fr 63)) ⟨0, by omega, rfl, by simp, by simp, by simp, by simp, by simp, by simp; omega, by simp⟩ ?_
 rintro fr G ⟨i, hi, rfl, f4, f5, f9, f11, f61, f62, f63⟩
 by_cases h : i < N
 ·obtain ⟨x, hx⟩ : ∃ x, X[i]? = some x := ⟨_, List.getElem?_eq_getElem (by omega)⟩
  obtain ⟨y, hy⟩ : ∃ y, Y[i]? = some y := ⟨_, List.getElem?_eq_getElem (by omega)⟩
  have hnx := getE hx
  have hny := getE hy
  obtain ⟨s, s1, s2, s3⟩ := pairsOk_at hpk hx hy
  have m1 := hmf x s s1
  have m2 := hmf y s s2
  have hw := wrap_succ (i := i) (by omega)
  have s3' : ¬ mn2 (mn2 s x) y < 0 := by omega
  simp [f4, f5, f9, f11, f61, f62, f63, h, hx, hy, hnx, hny, hXl, hYl, m1, m2, s3', hw, ivar]
  exact ⟨⟨i + 1, by omega, rfl⟩, by omega⟩
 ·have hil : i = N := by omega
  subst hil
  subst hc4 hc5
  simp [f4, f5, f9, f62, f63]
  cases hout : outsL vs aa ba with
  | none => rw [hout] at hl; cases hl
  | some full =>
  rw [hout] at hl
  cases full with
  | nil => cases hl
  | cons o0 outr =>
  simp only at hl
  cases hso : sortV ai vs with
  | none => rw [hso] at hl; cases hl
  | some s =>
  rw [hso] at hl
  simp only at hl
  cases hen : endsF s ai bi with
  | none => rw [hen] at hl; cases hl
  | some q =>
  rw [hen] at hl
  simp only [Option.some.injEq] at hl
  obtain ⟨one, two⟩ := q
  subst hl
  have wfull := outsL_wf hout
  have lfull := outsL_len hout
  obtain ⟨full, hfull⟩ : ∃ t, t = o0 :: outr := ⟨_, rfl⟩
  have hfl : full.length = outr.length + 1 := by rw [hfull]; rfl
  rw [← hfull] at hout wfull lfull
  simp only [lf9_B1, vc_block]
  refine loop_ind (fun fr G => ∃ (i : Nat) (out rest : List Li), i ≤ aa.length ∧ G[0]? = some ⟨3, 0, false, [.p (.agg [.int .i64 ai, .str af, .lst (aa.map fun n => .int .i64 n)])], 26⟩ ∧ G[1]? = some ⟨3, 0, false, [.p (.agg [.int .i64 bi, .str af, .lst (ba.map fun n => .int .i64 n)])], 26⟩ ∧ G[2]? = some ⟨0, 0, false, es, 0⟩ ∧
   fr 4 = .optr 0 0 0 0 ∧ fr 5 = .optr 1 0 0 0 ∧ fr 9 = .omap 2 0 ∧ fr 106 = .p (.lst (aa.map fun n => .int .i64 n)) ∧ fr 107 = .p (.int .i64 aa.length) ∧ fr 108 = .p (.int .i64 i) ∧
   outsL vs (aa.drop i) (ba.drop i) = some rest ∧ full = out ++ rest ∧ ((out = [] ∧ fr 18 = .tight []) ∨ (∃ m w, 3 ≤ m ∧ fr 18 = .own m 0 out.length w ∧ G[m]? = some ⟨8, w, false, (out.map cLi.enc).map .p, 80⟩))) (fun fr _ => aa.length - ivar (fr 108))
   ⟨0, [], full, by omega, rfl, rfl, rfl, by simp [f4], by simp [f5], by simp [f9], by simp, by simp [hla], by simp, by simpa using hout, rfl, .inl ⟨rfl, by simp⟩⟩ ?_
  rintro fr2 G ⟨i, out, rest, hi, g0, g1, g2, k4, k5, k9, k106, k107, k108, hor, hfo, k18⟩
  have hG0 : 0 < G.length := (List.getElem?_eq_some_iff.1 g0).1
  have hG1 : 1 < G.length := (List.getElem?_eq_some_iff.1 g1).1
  have hG2 : 2 < G.length := (List.getElem?_eq_some_iff.1 g2).1
  by_cases h : i < aa.length
  ·obtain ⟨x, hx⟩ : ∃ x, aa[i]? = some x := ⟨_, List.getElem?_eq_getElem h⟩
   obtain ⟨y, hy⟩ : ∃ y, ba[i]? = some y := ⟨_, List.getElem?_eq_getElem (by omega)⟩
   have hnx := getE hx
   have hny := getE hy
   have hib : i < ba.length := by omega
   have hw := wrap_succ (i := i) (by omega)
   have hda : aa.drop i = x :: aa.drop (i + 1) := by rw [List.drop_eq_getElem_cons h, hnx]
   have hdb : ba.drop i = y :: ba.drop (i + 1) := by rw [List.drop_eq_getElem_cons hib, hny]
   rw [hda, hdb] at hor
   by_cases hxy : x = y
   ·subst hxy
    rw [outsL, if_pos rfl] at hor
    simp [k4, k5, k9, k106, k107, k108, h, hx, hy, hnx, hny, g1, hib, hw, ivar]
    exact ⟨⟨i + 1, by omega, g0, g2, rfl, out, rest, hor, hfo, by simpa using k18⟩, by omega⟩
   ·rw [outsL, if_neg hxy] at hor
    have hbxy : (x == y) = false := by simpa using hxy
    cases hsx : sortV x vs with
    | none => rw [hsx] at hor; cases hor
    | some t =>
    rw [hsx] at hor
    simp only at hor
    cases heq : eqA t x y with
    | none => rw [heq] at hor; cases hor
    | some ea =>
    rw [heq] at hor
    simp only at hor
    cases hre : outsL vs (aa.drop (i + 1)) (ba.drop (i + 1)) with
    | none => rw [hre] at hor; cases hor
    | some rest' =>
    rw [hre] at hor
    simp only [Option.some.injEq] at hor
    subst hor
    have m1 := hmf x t hsx
    have v : sp3 cI cI cI eqAP [.int .i64 t, .int .i64 x, .int .i64 y] = some (pairAt (ea, 0)) := (sp3_at (A := cI) (B := cI) (C := cI) (x := t) (y := x) (z := y) trivial trivial trivial).trans (by simp only [eqAP, heq])
    have hA0 : ∀ Z, (G ++ Z)[0]? = some ⟨3, 0, false, [.p (.agg [.int .i64 ai, .str af, .lst (aa.map fun n => .int .i64 n)])], 26⟩ := fun Z => by rw [List.getElem?_append_left hG0]; exact g0
    have hA1 : ∀ Z, (G ++ Z)[1]? = some ⟨3, 0, false, [.p (.agg [.int .i64 bi, .str af, .lst (ba.map fun n => .int .i64 n)])], 26⟩ := fun Z => by rw [List.getElem?_append_left hG1]; exact g1
    have hA2 : ∀ Z, (G ++ Z)[2]? = some ⟨0, 0, false, es, 0⟩ := fun Z => by rw [List.getElem?_append_left hG2]; exact g2
    simp only [pairAt, At.enc] at v
    have hli : cLi.enc ⟨ea, true⟩ = .agg [.int .i64 ea.k, .lst (ea.p.ps.map Pa.enc), .bool ea.p.c.s, .lst (ea.p.c.n.map u64), .lst (ea.p.c.d.map u64), .int .i64 ea.a, .int .i64 ea.b, .bool true] := rfl
    have hfo' : full = (out ++ [⟨ea, true⟩]) ++ rest' := by rw [hfo]; simp
    have hmap : ((out ++ [(⟨ea, true⟩ : Li)]).map cLi.enc).map AVal.p = (out.map cLi.enc).map AVal.p ++ [.p (cLi.enc ⟨ea, true⟩)] := by simp
    rw [hli] at hmap
    simp [k4, k5, k9, k106, k107, k108, h, hx, hy, hnx, hny, g1, hib, hbxy]
    rw [vc_regionN]
    refine ⟨[], ?_⟩
    have hb3 : 1 ≤ maxLen := by omega
    have hlo : out.length ≤ aa.length := by
     have := congrArg List.length hfo
     simp at this
     omega
    rcases k18 with ⟨rfl, k18⟩ | ⟨m, w, hm3, k18, gm⟩
    ·simp [k4, k5, k9, k18, k106, k107, k108, hA0, hA1, hA2, hx, hy, hnx, hny, hib, hG1, hG2, m1, v, getT, getT0, setT0, fillS, fillA, hb3, hw, ivar, Tlm_mu, Tlm_fns]
     refine ⟨⟨i + 1, by omega, (List.getElem?_eq_some_iff.1 (hA0 _)).2, (List.getElem?_eq_some_iff.1 g1).2, (List.getElem?_eq_some_iff.1 g2).2, rfl, [⟨ea, true⟩], rest', hre, by simpa using hfo', _, by omega, _, ⟨rfl, rfl, rfl⟩, ?_⟩, by omega⟩
     rw [getT]
     simp [hli]
    ·have hm : m < G.length := (List.getElem?_eq_some_iff.1 gm).1
     obtain ⟨L, hL⟩ : ∃ L, L = (out.map cLi.enc).map AVal.p := ⟨_, rfl⟩
     have hLl : L.length = out.length := by rw [hL]; simp
     rw [← hL] at gm hmap
     have hM : ∀ Z, (G ++ Z)[m]? = some ⟨8, w, false, L, 80⟩ := fun Z => by rw [List.getElem?_append_left hm]; exact gm
     have hS : ∀ (k : Nat) Z x, k < 3 → ((G ++ Z).set m x)[k]? = G[k]? := fun k Z x hk => by rw [List.getElem?_set_ne (by omega), List.getElem?_append_left (by omega)]
     have hS0 := fun Z x => (hS 0 Z x (by omega)).trans g0
     have hS1 := fun Z x => (hS 1 Z x (by omega)).trans g1
     have hS2 := fun Z x => (hS 2 Z x (by omega)).trans g2
     have hSm : ∀ Z x, ((G ++ Z).set m x)[m]? = some x := fun Z x => List.getElem?_set_self (by simp; omega)
     have hb4 : (out.length + 1) * 112 ≤ 140737488355328 := by omega
     have hb5 : out.length + 1 ≤ maxLen := by omega
     simp [k4, k5, k9, k18, k106, k107, k108, hA0, hA1, hA2, hx, hy, hnx, hny, hib, hG1, hG2, m1, v, getT, getT0, setT0, fillS, fillA, hb4, hb5, hM, hLl, hw, ivar, hS0, hS1, hS2, Tlm_mu, Tlm_fns]
     refine ⟨⟨i + 1, by omega, (List.getElem?_eq_some_iff.1 (hS0 _ _)).2, (List.getElem?_eq_some_iff.1 (hS1 _ _)).2, rfl, out ++ [⟨ea, true⟩], rest', hre, hfo', m, hm3, _, ⟨rfl, by simp, rfl⟩, ?_⟩, by omega⟩
     rw [hSm, hL]
     simp [hli]
  ·have hil : i = aa.length := by omega
   subst hil
   rw [List.drop_of_length_le (Nat.le_refl _), List.drop_of_length_le (by omega)] at hor
   simp only [outsL, Option.some.injEq] at hor
   subst hor
   rw [List.append_nil] at hfo
   subst hfo
   rcases k18 with ⟨h0, -⟩ | ⟨m, w, hm3, k18, gm⟩
   ·rw [h0] at hfl
    simp at hfl
   ·have m1 := hmf ai s hso
    have v : sp3 cI cI cI endsP [.int .i64 s, .int .i64 ai, .int .i64 bi] = some (.tup [.lst (one.map cLi.enc), .lst (two.map cLi.enc), .int .i64 0]) := (sp3_at (A := cI) (B := cI) (C := cI) (x := s) (y := ai) (z := bi) trivial trivial trivial).trans (by simp only [endsP, hen])
    have hlt : (two.map cLi.enc = []) ↔ two = [] := by simp
    have hm : m < G.length := (List.getElem?_eq_some_iff.1 gm).1
    obtain ⟨L, hL⟩ : ∃ L, L = full.map cLi.enc := ⟨_, rfl⟩
    have hLl : L.length = full.length := by rw [hL]; simp
    have hwe : (o0 :: outr ++ one).map cLi.enc = L ++ one.map cLi.enc := by rw [hL, ← hfull]; simp
    have hwt : (o0 :: outr ++ two).map cLi.enc = L ++ two.map cLi.enc := by rw [hL, ← hfull]; simp
    rw [← hL] at gm
    have hone : one.length ≤ 2 ∧ two.length ≤ 2 := by
     unfold endsF at hen
     split at hen
     ·split at hen
      ·cases hen; simp
      ·cases hen
     ·split at hen
      ·cases hen; simp
      ·cases hen
    have hcw : cLi.wfL one ∧ cLi.wfL two := by
     unfold endsF at hen
     split at hen
     ·split at hen
      ·cases hen
       constructor
       ·intro z hz
        simp at hz
        rcases hz with rfl | rfl <;> exact wf_zPo
       ·intro z hz
        simp at hz
        rcases hz with rfl | rfl <;> exact wf_zPo
      ·cases hen
     ·split at hen
      ·rename_i a ha
       cases hen
       constructor
       ·intro z hz
        simp at hz
        subst hz
        exact eqA_wf ha
       ·intro z hz
        cases hz
      ·cases hen
    have hcell : ∀ (l : List Li), (l.map (AVal.p ∘ cLi.enc)).all (fun y => y.cells.length == 8 && y.cells.all AVal.isCell) = true := fun l => by
     rw [List.all_eq_true]
     intro z hz
     obtain ⟨u, _, rfl⟩ := List.mem_map.1 hz
     rfl
    have hres : ∀ (H : Heap) (n : Nat) (l : List Li), mapO (resolveV H n) (L.map AVal.p ++ l.map (AVal.p ∘ cLi.enc)) = some (L ++ l.map cLi.enc) := fun H n l => by
     have : L.map AVal.p ++ l.map (AVal.p ∘ cLi.enc) = (L ++ l.map cLi.enc).map AVal.p := by simp
     rw [this, mapO_pure]
    have hb6 : ∀ l : List Li, l.length ≤ 2 → (full.length + l.length) * 112 ≤ 140737488355328 ∧ full.length + l.length ≤ maxLen := fun l h => by
     have : full.length ≤ aa.length := lfull
     constructor <;> omega
    have app1 : ∀ (H : Heap) (k v : Nat) (fz : Bool) (l : List Li), l.length ≤ 2 → H[k]? = some ⟨8, v, fz, L.map AVal.p, 80⟩ → appV 8 112 80 (.own k 0 full.length v) (l.map (AVal.p ∘ cLi.enc)) H = some (.own k 0 (full.length + l.length) (v + 1), H.set k ⟨8, v + 1, fz, L.map AVal.p ++ l.map (AVal.p ∘ cLi.enc), 80⟩) := fun H k v fz l hl hk => by
     have := appV_own (bytes := 112) (n := full.length) hk (hcell l) (by decide) (by simp [hLl]) (by simp only [List.length_map, hLl]; exact (hb6 l hl).1) (by simp only [List.length_map, hLl]; exact (hb6 l hl).2)
     simpa using this
    simp only [hwe]
    cases htw : two with
    | nil =>
     subst htw
     simp only [List.map_nil] at v
     have a1 := app1 G m w false one hone.1 gm
     have gs : ∀ x, (G.set m x)[m]? = some x := fun x => List.getElem?_set_self hm
     have ht1 : (L ++ one.map cLi.enc).length = full.length + one.length := by simp [hLl]
     have ht2 : List.take (full.length + one.length) (L.map AVal.p ++ one.map (AVal.p ∘ cLi.enc)) = L.map AVal.p ++ one.map (AVal.p ∘ cLi.enc) := List.take_of_length_le (by simp [hLl])
     simp [k4, k5, k9, k18, k107, k108, g0, g1, g2, m1, v, a1, gs, hres, ht2, hLl, Tlm_mu, Tlm_fns, -appV]
    | cons t0 tr =>
     rw [← htw]
     have htl : 0 < two.length := by rw [htw]; simp
     have hte : two.isEmpty = false := by rw [htw]; rfl
     simp only [hte, Bool.false_eq_true, if_false, hwt]
     have htI : (0 : Int) < (two.length : Int) := by omega
     have hcl : freshS 8 80 sClL [.lst L] = some (.own 0 0 full.length 0, [⟨8, 0, false, L.map AVal.p, 80⟩]) := by
      have : sClL [.lst L] = some L := by
       have h1 := cLi.deL full wfull
       rw [← hL] at h1
       simp only [sClL, h1]
       rw [hfull]
       simp only
       rw [if_pos (by omega)]
      simp only [freshS, this, hLl]
     have hF : freeze1 G m = G.set m ⟨8, w, true, L.map AVal.p, 80⟩ := by
      unfold Abs.freeze1
      rw [gm]
     obtain ⟨F, hFF⟩ : ∃ F, F = G.set m ⟨8, w, true, L.map AVal.p, 80⟩ := ⟨_, rfl⟩
     have hFl : F.length = G.length := by rw [hFF]; simp
     have hFm : F[m]? = some ⟨8, w, true, L.map AVal.p, 80⟩ := by rw [hFF]; exact List.getElem?_set_self hm
     rw [← hFF] at hF
     have ht0 : ∀ n, mapO (resolveV G n) (List.take full.length (L.map AVal.p)) = some L := fun n => by rw [List.take_of_length_le (by simp [hLl]), mapO_pure]
     have ht3 : ∀ n, (List.take full.length (L.map AVal.p)).flatMap (touchV G n) = [] := fun n => by rw [List.take_of_length_le (by simp [hLl]), touch_pure]
     have hsm : ∀ n, List.map (shiftV n ∘ AVal.p) L = L.map AVal.p := fun n => by
      apply List.map_congr_left
      intro z _
      simp [shiftV]
     have a2 := app1 (F ++ [⟨8, 0, false, L.map AVal.p, 80⟩]) G.length 0 false two hone.2 (by rw [← hFl]; simp)
     have a3 := app1 (F ++ [⟨8, 1, false, L.map AVal.p ++ two.map (AVal.p ∘ cLi.enc), 80⟩]) m w true one hone.1 (by rw [List.getElem?_append_left (by omega)]; exact hFm)
     have gs1 : ∀ Z x, ((F ++ Z).set m x)[m]? = some x := fun Z x => List.getElem?_set_self (by simp; omega)
     have gs2 : ∀ z Z x, ((F ++ z :: Z).set m x)[G.length]? = some z := fun z Z x => by rw [List.getElem?_set_ne (by omega), ← hFl]; simp
     have tk1 : List.take (full.length + one.length) (L.map AVal.p ++ one.map (AVal.p ∘ cLi.enc)) = L.map AVal.p ++ one.map (AVal.p ∘ cLi.enc) := List.take_of_length_le (by simp [hLl])
     have tk2 : List.take (full.length + two.length) (L.map AVal.p ++ two.map (AVal.p ∘ cLi.enc)) = L.map AVal.p ++ two.map (AVal.p ∘ cLi.enc) := List.take_of_length_le (by simp [hLl])
     simp [k4, k5, k9, k18, k107, k108, g0, g1, g2, gm, m1, v, htl, ht0, ht3, hcl, hF, hFl, hLl, hsm, shiftE, a2, a3, gs1, gs2, tk1, tk2, hres, Tlm_mu, Tlm_fns, -appV, -getElem?_pos, List.getElem?_cons_zero, List.getElem?_cons_succ]
end Go.Proofs.YtgbjjikaenlkmaaGreat
