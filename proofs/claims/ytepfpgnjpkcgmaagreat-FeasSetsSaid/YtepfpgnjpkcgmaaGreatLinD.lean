/-
  What linear's multiples, sums, solutions and values compute, for at most a million parts.
-/
import Derived.Test.YtepfpgnjpkcgmaaGreatLinC
set_option linter.unusedSimpArgs false
set_option linter.unnecessarySimpa false
set_option linter.unusedVariables false
set_option linter.constructorNameAsVariable false

/-
 linear: multiples.
-/
namespace Go.Proofs.YtepfpgnjpkcgmaaGreat
open Go Go.Abs Go.Limbs
variable {base : Prot}
set_option maxRecDepth 20000
attribute [local irreducible] vc
attribute [local simp] pureS touchV freezeL fuel shiftV u64 au
theorem mulP_at {x y : Fr} (hx : x.wf) (hy : y.wf) : f2 mulP [x.enc, y.enc] = some (.tup [(mulF x y).1.enc, .int .i64 (mulF x y).2]) := f2_at hx hy
theorem addP_at {x y : Fr} (hx : x.wf) (hy : y.wf) : f2 addP [x.enc, y.enc] = some (.tup [(addF x y).1.enc, .int .i64 (addF x y).2]) := f2_at hx hy
theorem mulF_err {x y : Fr} (hx : x.ok = true) (hy : y.ok = true) : (mulF x y).2 = 0 ∨ mulF x y = (zF, 4) := by
 unfold mulF heldQ
 rw [hx, hy]
 simp only [Bool.and_self, if_true]
 split
 ·exact .inl rfl
 ·exact .inr rfl
theorem addF_err {x y : Fr} (hx : x.ok = true) (hy : y.ok = true) : (addF x y).2 = 0 ∨ addF x y = (zF, 4) := by
 unfold addF heldQ
 rw [hx, hy]
 simp only [Bool.and_self, if_true]
 split
 ·exact .inl rfl
 ·exact .inr rfl
end Go.Proofs.YtepfpgnjpkcgmaaGreat

/-
 linear: sums.
-/
namespace Go.Proofs.YtepfpgnjpkcgmaaGreat
open Go Go.Abs Go.Limbs
variable {base : Prot}
set_option maxRecDepth 20000
attribute [local irreducible] vc
attribute [local simp] pureS touchV freezeL fuel shiftV u64 au
theorem ok_addF {x y : Fr} (h : (addF x y).2 = 0) : (addF x y).1.ok = true := by
 unfold addF heldQ at h ⊢
 split at h
 ·split at h
  ·rename_i h1 h2
   rw [if_pos h1, if_pos h2]
   exact ok_ofQ h2
  ·cases h
 ·cases h
end Go.Proofs.YtepfpgnjpkcgmaaGreat

/-
 linear: what a term is where a sum is 0; a sum's value.
-/
namespace Go.Proofs.YtepfpgnjpkcgmaaGreat
open Go Go.Abs Go.Limbs
variable {base : Prot}
set_option maxRecDepth 20000
attribute [local irreducible] vc
attribute [local simp] pureS touchV freezeL fuel shiftV u64 au
theorem few_without {p : Po} (h : p.few = true) (t : Int) : (withoutPo p t).few = true := by
 have : ∀ l : List Pa, (dropF t l).length ≤ l.length := by
  intro l
  induction l with
  | nil => exact Nat.le_refl _
  | cons x r ih => unfold dropF; split <;> simp; omega
 have h1 := few_le h
 exact decide_eq_true (Nat.le_trans (this p.ps) h1)
theorem wfPs_drop {t : Int} : ∀ {l : List Pa}, wfPs l → wfPs (dropF t l)
 | [], h => h
 | x :: r, h => by
  unfold dropF
  split
  ·exact fun y hy => h y (by simp [hy])
  ·intro y hy
   rcases List.mem_cons.1 hy with rfl | hy
   ·exact h _ (by simp)
   ·exact wfPs_drop (fun z hz => h z (by simp [hz])) y hy
theorem wf_without {p : Po} (h : p.wf) (t : Int) : (withoutPo p t).wf := ⟨wfPs_drop h.1, h.2⟩
theorem ofR {n d : Int} (h : (-1000 ≤ n ∧ n ≤ 1000) ∧ (-1000 ≤ d ∧ d ≤ 1000)) : sQOf [.int .i64 n, .int .i64 d] = some (ofQ (Rat.divInt n d)).enc := sQOf_at (by omega) (by omega)
theorem m1_eq : Rat.divInt (-1) 1 = -1 := by decide +kernel
theorem p1_eq : Rat.divInt 1 1 = 1 := by decide +kernel
theorem Sm_m1 : Sm 64 (-1 : Rat) := by decide +kernel
theorem Sm_p1 : Sm 64 (1 : Rat) := by decide +kernel
abbrev Lk := PVal → Po → Option (Int → Fr)
structure LkOk (T : Tab) (L : Lk) : Prop where
 ok : ∀ c p lk, L c p = some lk → ∃ f caps, c = .clo f caps ∧ ∀ x ∈ p.ps, (lk x.t).wf ∧ T.fn f (.int .i64 x.t :: caps) = some (.p (lk x.t).enc, [])
 mu : ∀ f a H, T.mu f a H = none
def sValue (L : Lk) : List PVal → Option PVal
 | [a, c] => match decPo a with
  | some p => match L c p with | some lk => if p.few = true then some (pairF (valuePo lk p)) else none | none => none
  | none => none
 | _ => none
theorem sValue_some {L : Lk} {args : List PVal} {z : PVal} (h : sValue L args = some z) : ∃ (p : Po) (c : PVal) (lk : Int → Fr), p.wf ∧ p.few = true ∧ L c p = some lk ∧ args = [p.enc, c] ∧ z = pairF (valuePo lk p) := by
 unfold sValue at h
 split at h
 ·split at h
  ·rename_i p hp
   obtain ⟨rfl, w⟩ := decPo_some hp
   split at h
   ·rename_i lk hl
    split at h
    ·cases h; exact ⟨p, _, lk, w, by assumption, hl, rfl, rfl⟩
    ·cases h
   ·cases h
  ·cases h
 ·cases h
theorem sValue_at {L : Lk} {p : Po} {c : PVal} {lk : Int → Fr} (wp : p.wf) (fp : p.few = true) (hl : L c p = some lk) : sValue L [p.enc, c] = some (pairF (valuePo lk p)) := by simp only [sValue, decPo_enc wp, hl, fp, if_true]
structure TVal (T : Tab) : Prop where
 a1 : T.fn 30 = pureS (g1 okPo)
 a2 : T.fn 89 = pureS (f1 boolF)
 a3 : T.fn 86 = pureS sOwn
 a4 : T.fn 90 = pureS (f2 mulP)
 a5 : T.fn 85 = pureS (f2 addP)
theorem sumF_drop {lk : Int → Fr} {l : List Pa} {i : Nat} {x : Pa} {s : Fr} (hx : l[i]? = some x) : sumF lk (l.drop i) s = if (mulF x.c (lk x.t)).2 = 0 then (if (addF s (mulF x.c (lk x.t)).1).2 = 0 then sumF lk (l.drop (i + 1)) (addF s (mulF x.c (lk x.t)).1).1 else (zF, 4)) else (zF, 4) := by
 have hi := (List.getElem?_eq_some_iff.1 hx).1
 rw [List.drop_eq_getElem_cons hi, getE hx]
 rfl
theorem ok_mulF {x y : Fr} (h : (mulF x y).2 = 0) : (mulF x y).1.ok = true := by
 unfold mulF heldQ at h ⊢
 split at h
 ·split at h
  ·rename_i h1 h2
   rw [if_pos h1, if_pos h2]
   exact ok_ofQ h2
  ·cases h
 ·cases h
theorem value_ok {T : Tab} {L : Lk} (hT : TabOk Tryz.prog base T) (tv : TVal T) (hL : LkOk T L) : FnOk Tryz.prog base 23 (pureS (sValue L)) := by
 refine pure_of_vc hmix hT globNone low23 fun args z hs hf => ?_
 obtain ⟨p, cl, lk, wp, fp, hcl, rfl, rfl⟩ := sValue_some hs
 obtain ⟨f, caps, rfl, hlk⟩ := hL.ok cl p lk hcl
 have mu := hL.mu
 obtain ⟨t1, t2, t3, t4, t5⟩ := tv
 refine ⟨by simp [lf23], ?_⟩
 have hlen := few_le fp
 have v1 : g1 okPo [p.enc] = some (.bool p.ok) := g1_at wp
 unfold pairF valuePo
 cases hp : p.ok with
 | false =>
  rw [hp] at v1
  simp only [Po.enc, Fr.enc] at v1 ⊢
  simp [lf23, v1, fillS, zF, mu, t1, t2, t3, t4, t5]
 | true =>
 rw [hp] at v1
 have v2 := sOwn_ok wp.2 (ok_const hp)
 simp only [Bool.true_and]
 obtain ⟨r, hr⟩ : ∃ r, r = (if (p.ps.all fun x => (lk x.t).ok) = true then sumF lk p.ps p.c else (zF, 1)) := ⟨_, rfl⟩
 rw [← hr]
 simp only [Po.enc, Fr.enc] at v1 v2 ⊢
 simp [lf23, v1, fillS, eqNil, mu, t1, t2, t3, t4, t5]
 simp only [lf23_B0, vc_block]
 refine loop_ind (fun fr H => ∃ (i : Nat) (es : List Fr) (ex : Heap), H = ⟨4, 0, false, [.p p.enc], 27⟩ :: ⟨3, 0, false, [.agg [.p (.bool false), .tight [], .tight []]], 25⟩ :: ex ∧
   i ≤ p.ps.length ∧ es = (p.ps.take i).map (fun x => lk x.t) ∧ (∀ x ∈ p.ps.take i, (lk x.t).ok = true) ∧ Grown 2 3 25 (es.map Fr.enc) (fr 6) ex ∧
   fr 1 = .p (.clo f caps) ∧ fr 2 = .optr 0 0 0 0 ∧ fr 4 = .optr 1 0 0 0 ∧ fr 24 = .p (.lst (p.ps.map Pa.enc)) ∧ fr 25 = .p (.int .i64 p.ps.length) ∧ fr 26 = .p (.int .i64 i)) (fun fr _ => p.ps.length - ivar (fr 26))
  ⟨0, [], [], by simp [Po.enc, Fr.enc], by omega, by simp, by simp, by simp; exact .nil _ _ _ _, by simp, by simp, by simp, by simp, by simp, by simp⟩ ?_
 rintro fr H ⟨i, es, ex, rfl, hi, hes, hok, hg, f1', f2', f4', f24, f25, f26⟩
 by_cases h1 : i < p.ps.length
 ·obtain ⟨y, hy⟩ : ∃ y, p.ps[i]? = some y := ⟨_, List.getElem?_eq_getElem h1⟩
  have hye := getE hy
  obtain ⟨wk, hk⟩ := hlk y (List.mem_of_getElem? hy)
  have hv := vF wk
  have hw := wrap_succ (i := i) (by omega)
  have htk := take_succ_get hy
  obtain ⟨d, hd⟩ : ∃ d, d = lk y.t := ⟨_, rfl⟩
  rw [← hd] at hk hv wk
  cases hdo : d.ok with
  | false =>
   rw [hdo] at hv
   have : (p.ps.all fun x => (lk x.t).ok) = false := by
    cases h : p.ps.all fun x => (lk x.t).ok with
    | false => rfl
    | true =>
     have := List.all_eq_true.1 h y (List.mem_of_getElem? hy)
     rw [← hd, hdo] at this
     cases this
   rw [this] at hr
   simp only [Fr.enc] at hk hv
   simp [f1', f2', f4', f24, f25, f26, h1, hye, Pa.enc, Po.enc, Fr.enc, hk, hv, hr, zF, mapO_p, touch_p, getA, getA0, setA, setA0, mu, t1, t2, t3, t4, t5]
  | true =>
   rw [hdo] at hv
   obtain ⟨k', v', ex', happ, hg'⟩ := (hg.more [⟨4, 0, false, [.p y.enc], 112⟩, ⟨3, 0, false, [.p d.enc], 25⟩, ⟨3, 0, false, [.p d.enc], 25⟩]).app
    (pre := [⟨4, 0, false, [.p p.enc], 27⟩, ⟨3, 0, false, [.agg [.p (.bool false), .tight [], .tight []]], 25⟩]) rfl (y := d.enc) rfl rfl (by omega) (bytes := 56) (by rw [hes]; simp; omega) (by have := maxLen_ge; rw [hes]; simp; omega)
   simp only [Fr.enc] at hk hv
   simp only [Po.enc, Fr.enc, Pa.enc, List.cons_append, List.nil_append, List.length_map] at happ
   simp [f1', f2', f4', f24, f25, f26, h1, hye, Pa.enc, Po.enc, Fr.enc, hk, hv, fillS, -appV, happ, hw, ivar, mapO_p, touch_p, getA, getA0, setA, setA0, mu, t1, t2, t3, t4, t5]
   have hlist : List.take (i + 1) (List.map (Fr.enc ∘ fun x => lk x.t) p.ps) = es.map Fr.enc ++ [d.enc] := by
    rw [hes, ← List.map_take, htk, List.map_append, List.map_map, hd]; rfl
   have hes2 : (es.map Fr.enc).length = es.length := by simp
   exact ⟨⟨i + 1, by omega, fun x hx => by
    rw [htk] at hx
    rcases List.mem_append.1 hx with hx | hx
    ·exact hok x hx
    ·rw [List.mem_singleton] at hx; subst hx; rw [← hd]; exact hdo, by rw [hlist, ← hes2]; exact hg', by omega⟩, by omega⟩
 ·have hil : i = p.ps.length := by omega
  rw [hil, List.take_length] at hok hes
  have hall : (p.ps.all fun x => (lk x.t).ok) = true := List.all_eq_true.2 hok
  rw [hall, if_pos rfl] at hr
  obtain ⟨x6, h6⟩ : ∃ x6, x6 = fr 6 := ⟨_, rfl⟩
  rw [← h6] at hg
  -- the numbers that were read
  have hget : p.ps ≠ [] → ∃ j v, x6 = .own (j + 2) 0 p.ps.length v ∧ j < ex.length ∧ ∀ r : Heap, (ex ++ r)[j]? = some ⟨3, v, false, (p.ps.map fun x => AVal.p (lk x.t).enc), 25⟩ := by
   intro hne
   rcases hg with ⟨he, _⟩ | ⟨j, v, he, hj⟩
   ·rw [hes] at he
    simp at he
    exact absurd he hne
   ·refine ⟨j, v, by rw [he, hes, Nat.add_comm]; simp, (List.getElem?_eq_some_iff.1 hj).1, fun r => ?_⟩
    rw [List.getElem?_append_left (List.getElem?_eq_some_iff.1 hj).1, hj, hes]
    simp [List.map_map]
  simp [f1', f2', f4', f24, f25, f26, h1, ← h6, Po.enc, Fr.enc, v2, fillS, getA, getA0, setA, setA0, mu, t1, t2, t3, t4, t5]
  simp only [lf23_B1, vc_block]
  refine loop_ind (fun fr H => ∃ (i : Nat) (s : Fr) (ex2 : Heap), H = ⟨4, 0, false, [.p p.enc], 27⟩ :: ⟨3, 0, false, [.agg [.p (.bool false), .tight [], .tight []]], 25⟩ :: (ex ++ ⟨3, 0, false, [.p s.enc], 25⟩ :: ex2) ∧
   i ≤ p.ps.length ∧ s.wf ∧ s.ok = true ∧ r = sumF lk (p.ps.drop i) s ∧
   fr 4 = .optr 1 0 0 0 ∧ fr 6 = x6 ∧ fr 10 = .optr (ex.length + 2) 0 0 0 ∧ fr 47 = .p (.lst (p.ps.map Pa.enc)) ∧ fr 48 = .p (.int .i64 p.ps.length) ∧ fr 49 = .p (.int .i64 i)) (fun fr _ => p.ps.length - ivar (fr 49))
   ⟨0, p.c, [], by simp [Po.enc, Fr.enc], by omega, wp.2, ok_const hp, hr, by simp [f4'], by simp [h6], by simp, by simp, by simp, by simp⟩ ?_
  clear f1' f2' f4' f24 f25 f26 h6
  rintro fr H ⟨i, s, ex2, rfl, hi, ws, os, hrs, f4', f6', f10', f47, f48, f49⟩
  by_cases h1 : i < p.ps.length
  ·obtain ⟨y, hy⟩ : ∃ y, p.ps[i]? = some y := ⟨_, List.getElem?_eq_getElem h1⟩
   have hye := getE hy
   obtain ⟨j, v, hx6, hjl, hgj⟩ := hget (by rintro h; rw [h] at h1; simp at h1)
   rw [hx6] at f6'
   have wy : y.c.wf := wp.1 y (List.mem_of_getElem? hy)
   have oy := ok_part hp (List.mem_of_getElem? hy)
   obtain ⟨wk, _⟩ := hlk y (List.mem_of_getElem? hy)
   have ok2 : (lk y.t).ok = true := hok y (List.mem_of_getElem? hy)
   have hw := wrap_succ (i := i) (by omega)
   have m1 := mulP_at wy wk
   have hyv : (p.ps.map fun x => AVal.p (lk x.t).enc)[i]? = some (.p (lk y.t).enc) := by rw [List.getElem?_map, hy]; rfl
   rw [sumF_drop hy] at hrs
   rcases mulF_err oy ok2 with he | he
   case inr =>
    rw [he] at m1 hrs
    simp only [show ¬ (4 = 0) by decide, if_false] at hrs
    simp only [Fr.enc, zF] at m1
    simp [f4', f6', f10', f47, f48, f49, h1, hye, Pa.enc, Po.enc, Fr.enc, getA, getA0, setA, setA0, mu, t1, t2, t3, t4, t5]
    rw [vc_regionW]
    refine ⟨[], ?_⟩
    simp [f4', f6', f10', f47, f48, f49, h1, hye, hgj, Pa.enc, Po.enc, Fr.enc, m1, hrs, zF, getA, getA0, setA, setA0, mu, t1, t2, t3, t4, t5]
    exact ⟨by omega, snoc5⟩
   obtain ⟨d, hd⟩ : ∃ d, d = (mulF y.c (lk y.t)).1 := ⟨_, rfl⟩
   have wd : d.wf := by rw [hd]; exact wf_mulF _ _
   have od : d.ok = true := by rw [hd]; exact ok_mulF he
   rw [he, ← hd] at m1
   rw [he, ← hd, if_pos rfl] at hrs
   have m2 := addP_at ws wd
   rcases addF_err os od with he2 | he2
   case inr =>
    rw [he2] at m2 hrs
    simp only [show ¬ (4 = 0) by decide, if_false] at hrs
    simp only [Fr.enc, zF] at m1 m2
    simp [f4', f6', f10', f47, f48, f49, h1, hye, Pa.enc, Po.enc, Fr.enc, getA, getA0, setA, setA0, mu, t1, t2, t3, t4, t5]
    rw [vc_regionW]
    refine ⟨[], ?_⟩
    simp [f4', f6', f10', f47, f48, f49, h1, hye, hgj, Pa.enc, Po.enc, Fr.enc, m1, m2, hrs, zF, getA, getA0, setA, setA0, mu, t1, t2, t3, t4, t5]
    exact ⟨by omega, snoc5⟩
   obtain ⟨u, hu⟩ : ∃ u, u = (addF s d).1 := ⟨_, rfl⟩
   have wu : u.wf := by rw [hu]; exact wf_addF _ _
   have ou : u.ok = true := by rw [hu]; exact ok_addF he2
   rw [he2, ← hu] at m2
   rw [he2, ← hu, if_pos rfl] at hrs
   simp only [Fr.enc, zF] at m1 m2
   simp [f4', f6', f10', f47, f48, f49, h1, hye, Pa.enc, Po.enc, Fr.enc, getA, getA0, setA, setA0, mu, t1, t2, t3, t4, t5]
   rw [vc_regionW]
   refine ⟨[], ?_⟩
   simp [f4', f6', f10', f47, f48, f49, h1, hye, hgj, hw, ivar, Pa.enc, Po.enc, Fr.enc, m1, m2, zF, getA, getA0, setA, setA0, mu, t1, t2, t3, t4, t5]
   exact ⟨by omega, snoc5, ⟨i + 1, u, ⟨rfl, rfl, rfl⟩, by omega, wu, ou, hrs, hx6.symm, by omega⟩, by omega⟩
  ·have hil : i = p.ps.length := by omega
   rw [hil, List.drop_length] at hrs
   simp only [sumF] at hrs
   simp [f4', f10', f47, f48, f49, h1, hrs, Fr.enc, getA, getA0, setA, setA0]
end Go.Proofs.YtepfpgnjpkcgmaaGreat
