/-
  What linear's multiples, sums, solutions and values compute, for at most a million parts.
-/
import Derived.Test.YtgbjjikaenlkmaaGreatLinC
set_option linter.unusedSimpArgs false
set_option linter.unnecessarySimpa false
set_option linter.unusedVariables false
set_option linter.constructorNameAsVariable false

/-
 linear: multiples.
-/
namespace Go.Proofs.YtgbjjikaenlkmaaGreat
open Go Go.Abs Go.Limbs
variable {base : Prot}
set_option maxRecDepth 20000
attribute [local irreducible] vc
attribute [local simp] pureS touchV freezeL fuel shiftV u64 au
def Tsc : Tab := (((((Tab.none.with 68 (pureS (g1 okPo))).with 69 (pureS (f1 boolF))).with 70 (pureS (f2 mulP))).with 71 (pureS (f1 signP))).with 74 (pureS (f2 addP))).with 75 (pureS sOwn)
theorem Tsc_ok : TabOk Tryz.prog base Tsc := Tab.with_ok (Tab.with_ok (Tab.with_ok (Tab.with_ok (Tab.with_ok (Tab.with_ok Tab.none_ok lvalid_ok) qvalid_ok) qmul_ok) qsign_ok) qadd_ok) lown_ok
theorem Tsc_mu (f : FuncId) (a : List AVal) (H : Heap) : Tsc.mu f a H = none := (rfl)
theorem Tsc_fns : Tsc.fn 68 = (pureS (g1 okPo)) ∧ Tsc.fn 69 = (pureS (f1 boolF)) ∧ Tsc.fn 70 = (pureS (f2 mulP)) ∧ Tsc.fn 71 = (pureS (f1 signP)) ∧ Tsc.fn 74 = (pureS (f2 addP)) ∧ Tsc.fn 75 = (pureS sOwn) := ⟨rfl, rfl, rfl, rfl, rfl, rfl⟩
theorem scaleF_drop {k : Fr} {l : List Pa} {i : Nat} {x : Pa} (hx : l[i]? = some x) : scaleF k (l.drop i) = if (mulF x.c k).2 = 0 then (scaleF k (l.drop (i + 1))).map (⟨(mulF x.c k).1, x.t⟩ :: ·) else none := by
 have hi := (List.getElem?_eq_some_iff.1 hx).1
 rw [List.drop_eq_getElem_cons hi, getE hx]
 rfl
theorem mulP_at {x y : Fr} (hx : x.wf) (hy : y.wf) : f2 mulP [x.enc, y.enc] = some (.tup [(mulF x y).1.enc, .int .i64 (mulF x y).2]) := f2_at hx hy
theorem addP_at {x y : Fr} (hx : x.wf) (hy : y.wf) : f2 addP [x.enc, y.enc] = some (.tup [(addF x y).1.enc, .int .i64 (addF x y).2]) := f2_at hx hy
theorem mulF_err {x y : Fr} (hx : x.ok = true) (hy : y.ok = true) : (mulF x y).2 = 0 ∨ mulF x y = (zF, 4) := by
 unfold mulF heldQ
 rw [hx, hy]
 simp only [Bool.and_self, if_true]
 split
 ·exact .inl rfl
 ·exact .inr rfl
theorem addF_err {x y : Fr} (hx : x.ok = true) (hy : y.ok = true) : (addF x y).2 = 0 ∨ addF x y = (zF, 4) := by
 unfold addF heldQ
 rw [hx, hy]
 simp only [Bool.and_self, if_true]
 split
 ·exact .inl rfl
 ·exact .inr rfl
def scaleP (p : Po) (k : Fr) : PVal := pairPo (scalePo p k)
theorem scale_ok : FnOk Tryz.prog base 41 (pureS (gks scaleP)) := by
 refine pure_of_vc hmix Tsc_ok globNone low41 fun args z hs hf => ?_
 obtain ⟨p, k, wp, wk, fp, rfl, rfl⟩ := gks_some hs
 refine ⟨by simp [lf41], ?_⟩
 have hlen := few_le fp
 have v1 : g1 okPo [p.enc] = some (.bool p.ok) := g1_at wp
 have v2 := vF wk
 have v3 := mulP_at wp.2 wk
 have v4 : f1 signP [k.enc] = some (.int .i64 (signF k)) := f1_at wk
 unfold scaleP pairPo scalePo
 cases hp : p.ok with
 | false =>
  rw [hp] at v1
  simp only [Po.enc, Fr.enc] at v1 ⊢
  simp [lf41, v1, fillS, Tsc_mu, Tsc_fns, zPo, zF]
 | true =>
 rw [hp] at v1
 cases hk : k.ok with
 | false =>
  rw [hk] at v2
  simp only [Po.enc, Fr.enc] at v1 v2 ⊢
  simp [lf41, v1, v2, fillS, Tsc_mu, Tsc_fns, zPo, zF]
 | true =>
 rw [hk] at v2
 rcases mulF_err (ok_const hp) hk with he | he
 case inr =>
  rw [he] at v3
  simp only [Po.enc, Fr.enc, zF] at v1 v2 v3 ⊢
  simp [lf41, v1, v2, v3, he, fillS, Tsc_mu, Tsc_fns, zPo, zF]
 rw [he] at v3
 have hsn := sign_nil hk
 obtain ⟨c, hc⟩ : ∃ c, c = (mulF p.c k).1 := ⟨_, rfl⟩
 have wc : c.wf := by rw [hc]; exact wf_mulF _ _
 rw [← hc] at v3 ⊢
 simp only [he, Bool.and_self, if_true]
 by_cases hk0 : k.n = []
 ·rw [decide_eq_true hk0] at hsn
  rw [if_pos hk0]
  simp only [Po.enc, Fr.enc] at v1 v2 v3 v4 ⊢
  simp [lf41, v1, v2, v3, v4, hsn, fillS, Tsc_mu, Tsc_fns]
 rw [decide_eq_false hk0] at hsn
 rw [if_neg hk0]
 obtain ⟨r, hr⟩ : ∃ r : Po × Nat, r = withC c (scaleF k p.ps) := ⟨_, rfl⟩
 rw [← hr]
 have hm := maxLen_ge
 simp only [Po.enc, Fr.enc] at v1 v2 v3 v4 ⊢
 simp [lf41, v1, v2, v3, v4, hsn, fillS, Tsc_mu, Tsc_fns]
 simp only [lf41_B0, vc_block]
 refine loop_ind (fun fr H => ∃ (i : Nat) (es : List Pa) (x : AVal) (ex : Heap), H = ⟨4, 0, false, [.p p.enc], 76⟩ :: ⟨3, 0, false, [.p k.enc], 33⟩ :: ⟨4, 0, false, [.agg [x, .p (.bool c.s), .p (.lst (c.n.map u64)), .p (.lst (c.d.map u64))]], 76⟩ :: ex ∧
   i ≤ p.ps.length ∧ es.length = i ∧ Grown 3 4 93 (es.map Pa.enc) x ex ∧ scaleF k p.ps = (scaleF k (p.ps.drop i)).map (es ++ ·) ∧
   fr 3 = .optr 1 0 0 0 ∧ fr 4 = .optr 2 0 0 0 ∧ fr 34 = .p (.lst (p.ps.map Pa.enc)) ∧ fr 35 = .p (.int .i64 p.ps.length) ∧ fr 36 = .p (.int .i64 i)) (fun fr _ => p.ps.length - ivar (fr 36))
  ⟨0, [], .tight [], [], by simp [Po.enc, Fr.enc], by omega, rfl, .nil _ _ _ _, by simp, by simp, by simp, by simp, by simp, by simp⟩ ?_
 rintro fr H ⟨i, es, x, ex, rfl, hi, hes, hg, hsc, f3, f4, f34, f35, f36⟩
 have hgc := hg
 by_cases h1 : i < p.ps.length
 ·obtain ⟨y, hy⟩ : ∃ y, p.ps[i]? = some y := ⟨_, List.getElem?_eq_getElem h1⟩
  have wy : y.c.wf := wp.1 y (List.mem_of_getElem? hy)
  have hye := getE hy
  have hm := mulP_at wy wk
  rw [scaleF_drop hy] at hsc
  have hw := wrap_succ (i := i) (by omega)
  rcases mulF_err (ok_part hp (List.mem_of_getElem? hy)) hk with he | he
  case inr =>
   rw [he] at hm hsc
   simp only [Fr.enc, zF] at hm
   simp only [show ¬ (4 = 0) by decide, if_false] at hsc
   rw [hsc] at hr
   rcases hg.form with rfl | ⟨kk, nn, vv, rfl⟩ <;> simp [f3, f4, f34, f35, f36, h1, hye, Pa.enc, Po.enc, Fr.enc, hm, hr, withC, zPo, zF, getA, getA0, setA, setA0, Tsc_mu, Tsc_fns]
  obtain ⟨d, hd⟩ : ∃ d, d = (mulF y.c k).1 := ⟨_, rfl⟩
  rw [he, ← hd] at hm
  rw [he, ← hd, if_pos rfl] at hsc
  obtain ⟨k', v', ex', happ, hg'⟩ := (hg.more [⟨4, 0, false, [.p (.agg [.bool d.s, .lst (d.n.map u64), .lst (d.d.map u64), .int .i64 y.t])], 93⟩, ⟨4, 0, false, [.p (.agg [.bool d.s, .lst (d.n.map u64), .lst (d.d.map u64), .int .i64 y.t])], 93⟩]).app
   (pre := [⟨4, 0, false, [.p p.enc], 76⟩, ⟨3, 0, false, [.p k.enc], 33⟩, ⟨4, 0, false, [.agg [x, .p (.bool c.s), .p (.lst (c.n.map u64)), .p (.lst (c.d.map u64))]], 76⟩]) rfl (y := (⟨d, y.t⟩ : Pa).enc) rfl rfl (by omega) (bytes := 64) (by simp; omega) (by simp; omega)
  simp only [Fr.enc] at hm
  simp only [Po.enc, Fr.enc, Pa.enc, List.cons_append, List.nil_append] at happ
  rcases hg.form with rfl | ⟨kk, nn, vv, rfl⟩ <;> simp [f3, f4, f34, f35, f36, h1, hye, Pa.enc, Po.enc, Fr.enc, hm, getA, getA0, setA, setA0, Tsc_mu, Tsc_fns, fillS, -appV, happ, hw, ivar]
  all_goals
   exact ⟨⟨i + 1, es ++ [⟨d, y.t⟩], _, _, ⟨rfl, rfl⟩, by omega, by simp [hes], by simpa [Pa.enc] using hg', by rw [hsc, Option.map_map]; congr 1; funext m; simp, by omega⟩, by omega⟩
 ·have hil : i = p.ps.length := by omega
  rw [hil, List.drop_length] at hsc
  simp only [scaleF, Option.map_some, List.append_nil] at hsc
  rw [hsc] at hr
  rcases hg with ⟨he, rfl⟩ | ⟨j, v, rfl, hj⟩
  ·have : es = [] := by simpa using he
   subst this
   simp [f3, f4, f34, f35, f36, h1, hr, withC, pairPo, Po.enc, Fr.enc, Tsc_mu, Tsc_fns]
  ·simp [f3, f4, f34, f35, f36, h1, hr, hj, get3, mapO_pe, take_map, withC, pairPo, Po.enc, Fr.enc, Tsc_mu, Tsc_fns]
end Go.Proofs.YtgbjjikaenlkmaaGreat

/-
 linear: sums.
-/
namespace Go.Proofs.YtgbjjikaenlkmaaGreat
open Go Go.Abs Go.Limbs
variable {base : Prot}
set_option maxRecDepth 20000
attribute [local irreducible] vc
attribute [local simp] pureS touchV freezeL fuel shiftV u64 au
def addPP (p q : Po) : PVal := pairPo (addPo p q)
theorem sizeOk_parts (a b c d : PVal) (l : List Pa) : sizeOk 4 (.agg [a, b, c, d] :: l.map Pa.enc) = true := by
 unfold sizeOk
 simp only [List.all_cons, List.all_map, Bool.and_eq_true]
 exact ⟨rfl, List.all_eq_true.2 fun x _ => rfl⟩
theorem merge_lt {x y : Pa} {l r : List Pa} (h : x.t < y.t) : mergeF (x :: l) (y :: r) = (mergeF l (y :: r)).map (x :: ·) := by rw [mergeF, if_pos h]
theorem merge_gt {x y : Pa} {l r : List Pa} (h : y.t < x.t) : mergeF (x :: l) (y :: r) = (mergeF (x :: l) r).map (y :: ·) := by rw [mergeF, if_neg (by omega), if_pos h]
theorem merge_eq {x y : Pa} {l r : List Pa} (h : x.t = y.t) : mergeF (x :: l) (y :: r) = if (addF x.c y.c).2 = 0 then (mergeF l r).map (fun m => if (addF x.c y.c).1.n = [] then m else ⟨(addF x.c y.c).1, x.t⟩ :: m) else none := by
 rw [mergeF, if_neg (by omega), if_neg (by omega)]
theorem merge_nil (r : List Pa) : mergeF [] r = some r := by rw [mergeF]
theorem merge_nil2 (x : Pa) (l : List Pa) : mergeF (x :: l) [] = some (x :: l) := by rw [mergeF]
theorem map_app {es : List Pa} {z : Pa} {o : Option (List Pa)} : (o.map (z :: ·)).map (es ++ ·) = o.map (es ++ [z] ++ ·) := by
 rw [Option.map_map]; congr 1; funext m; simp
theorem ok_addF {x y : Fr} (h : (addF x y).2 = 0) : (addF x y).1.ok = true := by
 unfold addF heldQ at h ⊢
 split at h
 ·split at h
  ·rename_i h1 h2
   rw [if_pos h1, if_pos h2]
   exact ok_ofQ h2
  ·cases h
 ·cases h
theorem okParts_nz : ∀ {l : List Pa} {a : Int}, okParts a l = true → ∀ x ∈ l, x.c.n ≠ []
 | [], _, _, x, hx => by cases hx
 | y :: r, a, h, x, hx => by
  simp only [okParts, Bool.and_eq_true, Bool.not_eq_true', decide_eq_false_iff_not] at h
  rcases List.mem_cons.1 hx with rfl | hx
  ·exact h.1.2
  ·exact okParts_nz h.2 x hx
theorem nz_part {p : Po} (h : p.ok = true) {x : Pa} (hx : x ∈ p.ps) : x.c.n ≠ [] := by
 unfold Po.ok at h
 rw [Bool.and_eq_true] at h
 exact okParts_nz h.1 x hx
theorem ladd_ok : FnOk Tryz.prog base 44 (pureS (g2s addPP)) := by
 refine pure_of_vc hmix Tsc_ok globNone low44 fun args z hs hf => ?_
 obtain ⟨p, q, wp, wq, fp, fq, rfl, rfl⟩ := g2s_some hs
 refine ⟨by simp [lf44], ?_⟩
 have hlp := few_le fp
 have hlq := few_le fq
 have v1 : g1 okPo [p.enc] = some (.bool p.ok) := g1_at wp
 have v2 : g1 okPo [q.enc] = some (.bool q.ok) := g1_at wq
 have v3 := addP_at wp.2 wq.2
 unfold addPP pairPo addPo
 cases hp : p.ok with
 | false =>
  rw [hp] at v1
  simp only [Po.enc, Fr.enc] at v1 ⊢
  simp [lf44, v1, fillS, Tsc_mu, Tsc_fns, zPo, zF]
 | true =>
 rw [hp] at v1
 cases hq : q.ok with
 | false =>
  rw [hq] at v2
  simp only [Po.enc, Fr.enc] at v1 v2 ⊢
  simp [lf44, v1, v2, fillS, Tsc_mu, Tsc_fns, zPo, zF]
 | true =>
 rw [hq] at v2
 rcases addF_err (ok_const hp) (ok_const hq) with he | he
 case inr =>
  rw [he] at v3
  simp only [Po.enc, Fr.enc, zF] at v1 v2 v3 ⊢
  simp [lf44, v1, v2, v3, he, fillS, Tsc_mu, Tsc_fns, zPo, zF]
 rw [he] at v3
 obtain ⟨c, hc⟩ : ∃ c, c = (addF p.c q.c).1 := ⟨_, rfl⟩
 rw [← hc] at v3 ⊢
 simp only [he, Bool.and_self, if_true]
 obtain ⟨r, hr⟩ : ∃ r : Po × Nat, r = withC c (mergeF p.ps q.ps) := ⟨_, rfl⟩
 rw [← hr]
 have hm := maxLen_ge
 simp only [Po.enc, Fr.enc] at v1 v2 v3 ⊢
 simp [lf44, v1, v2, v3, fillS, Tsc_mu, Tsc_fns]
 simp only [lf44_B0, vc_block]
 refine loop_ind (fun fr H => ∃ (l m : List Pa) (es : List Pa) (x : AVal) (ex : Heap), H = ⟨4, 0, false, [.p p.enc], 76⟩ :: ⟨4, 0, false, [.p q.enc], 76⟩ :: ⟨4, 0, false, [.agg [x, .p (.bool c.s), .p (.lst (c.n.map u64)), .p (.lst (c.d.map u64))]], 76⟩ :: ex ∧
   es.length + l.length + m.length ≤ 2000000 ∧ Grown 3 4 93 (es.map Pa.enc) x ex ∧ mergeF p.ps q.ps = (mergeF l m).map (es ++ ·) ∧ (∀ x ∈ l, x.wf ∧ x.c.ok = true ∧ x.c.n ≠ []) ∧ (∀ x ∈ m, x.wf ∧ x.c.ok = true ∧ x.c.n ≠ []) ∧
   fr 4 = .optr 2 0 0 0 ∧ fr 6 = .p (.lst (l.map Pa.enc)) ∧ fr 7 = .p (.lst (m.map Pa.enc))) (fun fr _ => (match fr 6, fr 7 with | .p (.lst a), .p (.lst b) => a.length + b.length | _, _ => 0))
  ⟨p.ps, q.ps, [], .tight [], [], by simp [Po.enc, Fr.enc], by simp; omega, .nil _ _ _ _, by simp, fun x hx => ⟨wp.1 x hx, ok_part hp hx, nz_part hp hx⟩, fun x hx => ⟨wq.1 x hx, ok_part hq hx, nz_part hq hx⟩, by simp, by simp, by simp⟩ ?_
 rintro fr H ⟨l, m, es, x, ex, rfl, hlen, hg, hmg, okl, okm, f4, f6, f7⟩
 -- one part more
 have more : ∀ (d : Fr) (t : Int) (es2 : List Pa), es2 = es ++ [⟨d, t⟩] → es.length + 1 ≤ 2000000 → ∃ k' v' ex', appV 4 64 93 x [.p (.agg [.bool d.s, .lst (d.n.map u64), .lst (d.d.map u64), .int .i64 t])] (⟨4, 0, false, [.p p.enc], 76⟩ :: ⟨4, 0, false, [.p q.enc], 76⟩ :: ⟨4, 0, false, [.agg [x, .p (.bool c.s), .p (.lst (c.n.map u64)), .p (.lst (c.d.map u64))]], 76⟩ :: (ex ++
   [⟨4, 0, false, [.p (.agg [.bool d.s, .lst (d.n.map u64), .lst (d.d.map u64), .int .i64 t])], 93⟩, ⟨4, 0, false, [.p (.agg [.bool d.s, .lst (d.n.map u64), .lst (d.d.map u64), .int .i64 t])], 93⟩])) =
    some (.own k' 0 (es.length + 1) v', ⟨4, 0, false, [.p p.enc], 76⟩ :: ⟨4, 0, false, [.p q.enc], 76⟩ :: ⟨4, 0, false, [.agg [x, .p (.bool c.s), .p (.lst (c.n.map u64)), .p (.lst (c.d.map u64))]], 76⟩ :: ex') ∧ Grown 3 4 93 (es2.map Pa.enc) (.own k' 0 (es.length + 1) v') ex' := by
  intro d t es2 h2 hle
  obtain ⟨k', v', ex', happ, hg'⟩ := (hg.more [⟨4, 0, false, [.p (.agg [.bool d.s, .lst (d.n.map u64), .lst (d.d.map u64), .int .i64 t])], 93⟩, ⟨4, 0, false, [.p (.agg [.bool d.s, .lst (d.n.map u64), .lst (d.d.map u64), .int .i64 t])], 93⟩]).app
   (pre := [⟨4, 0, false, [.p p.enc], 76⟩, ⟨4, 0, false, [.p q.enc], 76⟩, ⟨4, 0, false, [.agg [x, .p (.bool c.s), .p (.lst (c.n.map u64)), .p (.lst (c.d.map u64))]], 76⟩]) rfl (y := (⟨d, t⟩ : Pa).enc) rfl rfl (by omega) (bytes := 64) (by simp; omega) (by simp; omega)
  rw [List.length_map] at happ hg'
  exact ⟨k', v', ex', happ, by subst h2; simpa using hg'⟩
 cases l with
 | nil =>
  cases m with
  | nil =>
   rw [merge_nil] at hmg
   simp only [Option.map_some, List.append_nil] at hmg
   rw [hmg] at hr
   rcases hg with ⟨he, rfl⟩ | ⟨j, v, rfl, hj⟩
   ·have : es = [] := by simpa using he
    subst this
    simp [f4, f6, f7, hr, withC, pairPo, Po.enc, Fr.enc, Tsc_mu, Tsc_fns]
   ·simp [f4, f6, f7, hr, hj, get3, mapO_pe, take_map, withC, pairPo, Po.enc, Fr.enc, Tsc_mu, Tsc_fns]
  | cons y m =>
   obtain ⟨wy, oy, ny⟩ := okm y (by simp)
   have v5 := sOwn_ok wy oy
   have v6 : f1 signP [y.c.enc] = some (.int .i64 (signF y.c)) := f1_at wy
   have v7 := sign_nil oy
   rw [decide_eq_false ny] at v7
   have v8 : (signF y.c != 0) = true := by rw [bne, v7]; rfl
   simp only [Fr.enc] at v5 v6
   have hp1 : (0 : Int) < (m.length : Int) + 1 := by omega
   have hp2 : ((m.length : Int) + 1 == 0) = false := by simp; omega
   have hp3 : (1 : Int) ≤ (m.length : Int) + 1 := by omega
   simp only [List.length_nil, List.length_cons] at hlen
   obtain ⟨k', v', ex', happ, hg'⟩ := more y.c y.t _ rfl (by omega)
   rcases hg.form with rfl | ⟨kk, nn, vv, rfl⟩
   all_goals
    simp [f4, f6, f7, hp1, hp2, Pa.enc, v5, getA, getA0, setA, setA0, Tsc_mu, Tsc_fns]
    rw [vc_regionW]
    refine ⟨[ex.length + 3], ?_⟩
    simp only [Po.enc, Fr.enc] at happ
    simp [f4, f6, f7, hp1, hp2, Pa.enc, Po.enc, Fr.enc, v5, v6, v8, hp3, sizeOk_parts, take_map, fillS, -appV, happ, getA, getA0, setA, setA0, Tsc_mu, Tsc_fns]
    exact ⟨swap3, [], m, es ++ [y], _, _, ⟨rfl, rfl⟩, by simp; omega, hg', by rw [hmg, merge_nil, merge_nil]; simp, by simp, fun z hz => okm z (by simp [hz]), rfl, rfl⟩
 | cons u l =>
  obtain ⟨wu, ou, nu⟩ := okl u (by simp)
  have u5 := sOwn_ok wu ou
  have u6 : f1 signP [u.c.enc] = some (.int .i64 (signF u.c)) := f1_at wu
  have u7 := sign_nil ou
  rw [decide_eq_false nu] at u7
  have u8 : (signF u.c != 0) = true := by rw [bne, u7]; rfl
  simp only [Fr.enc] at u5 u6
  have hl1 : (0 : Int) < (l.length : Int) + 1 := by omega
  have hl2 : ((l.length : Int) + 1 == 0) = false := by simp; omega
  have hl3 : (1 : Int) ≤ (l.length : Int) + 1 := by omega
  cases m with
  | nil =>
   simp only [List.length_nil, List.length_cons] at hlen
   obtain ⟨k', v', ex', happ, hg'⟩ := more u.c u.t _ rfl (by omega)
   rcases hg.form with rfl | ⟨kk, nn, vv, rfl⟩
   all_goals
    simp [f4, f6, f7, hl1, hl2, Pa.enc, u5, getA, getA0, setA, setA0, Tsc_mu, Tsc_fns]
    rw [vc_regionW]
    refine ⟨[ex.length + 3], ?_⟩
    simp only [Po.enc, Fr.enc] at happ
    simp [f4, f6, f7, hl1, hl2, hl3, Pa.enc, Po.enc, Fr.enc, u5, u6, u8, sizeOk_parts, take_map, fillS, -appV, happ, getA, getA0, setA, setA0, Tsc_mu, Tsc_fns]
    exact ⟨swap3, l, [], es ++ [u], _, _, ⟨rfl, rfl⟩, by simp; omega, hg', by
     rw [hmg, merge_nil2]
     cases l with
     | nil => rw [merge_nil]; simp
     | cons a l => rw [merge_nil2]; simp, fun z hz => okl z (by simp [hz]), by simp, rfl, rfl⟩
  | cons y m =>
   obtain ⟨wy, oy, ny⟩ := okm y (by simp)
   have v5 := sOwn_ok wy oy
   have v6 : f1 signP [y.c.enc] = some (.int .i64 (signF y.c)) := f1_at wy
   have v7 := sign_nil oy
   rw [decide_eq_false ny] at v7
   have v8 : (signF y.c != 0) = true := by rw [bne, v7]; rfl
   simp only [Fr.enc] at v5 v6
   have hp1 : (0 : Int) < (m.length : Int) + 1 := by omega
   have hp2 : ((m.length : Int) + 1 == 0) = false := by simp; omega
   have hp3 : (1 : Int) ≤ (m.length : Int) + 1 := by omega
   simp only [List.length_cons] at hlen
   by_cases hlt : u.t < y.t
   ·obtain ⟨k', v', ex', happ, hg'⟩ := more u.c u.t _ rfl (by omega)
    rw [merge_lt hlt, map_app] at hmg
    rcases hg.form with rfl | ⟨kk, nn, vv, rfl⟩
    all_goals
     simp [f4, f6, f7, hl1, hl2, hp1, hp2, hlt, Pa.enc, u5, getA, getA0, setA, setA0, Tsc_mu, Tsc_fns]
     rw [vc_regionW]
     refine ⟨[ex.length + 3], ?_⟩
     simp only [Po.enc, Fr.enc] at happ
     simp [f4, f6, f7, hl1, hl2, hl3, hlt, Pa.enc, Po.enc, Fr.enc, u5, u6, u8, sizeOk_parts, take_map, fillS, -appV, happ, getA, getA0, setA, setA0, Tsc_mu, Tsc_fns]
     exact ⟨swap3, l, y :: m, es ++ [u], _, _, ⟨rfl, rfl⟩, by simp; omega, hg', hmg, fun z hz => okl z (by simp [hz]), fun z hz => okm z hz, rfl, rfl⟩
   ·by_cases hgt : y.t < u.t
    ·obtain ⟨k', v', ex', happ, hg'⟩ := more y.c y.t _ rfl (by omega)
     rw [merge_gt hgt, map_app] at hmg
     rcases hg.form with rfl | ⟨kk, nn, vv, rfl⟩
     all_goals
      simp [f4, f6, f7, hl1, hl2, hp1, hp2, hlt, hgt, Pa.enc, v5, getA, getA0, setA, setA0, Tsc_mu, Tsc_fns]
      rw [vc_regionW]
      refine ⟨[ex.length + 3], ?_⟩
      simp only [Po.enc, Fr.enc] at happ
      simp [f4, f6, f7, hp1, hp2, hp3, hlt, hgt, Pa.enc, Po.enc, Fr.enc, v5, v6, v8, sizeOk_parts, take_map, fillS, -appV, happ, getA, getA0, setA, setA0, Tsc_mu, Tsc_fns]
      exact ⟨swap3, u :: l, m, es ++ [y], _, _, ⟨rfl, rfl⟩, by simp; omega, hg', hmg, fun z hz => okl z hz, fun z hz => okm z (by simp [hz]), rfl, rfl⟩
    ·have heq : u.t = y.t := by omega
     have w1 := addP_at wu wy
     rw [merge_eq heq] at hmg
     rcases addF_err ou oy with he | he
     case inr =>
      rw [he] at w1 hmg
      simp only [show ¬ (4 = 0) by decide, if_false, Option.map_none] at hmg
      rw [hmg] at hr
      simp only [Fr.enc, zF] at w1
      rcases hg.form with rfl | ⟨kk, nn, vv, rfl⟩
      all_goals
       simp [f4, f6, f7, hl1, hl2, hp1, hp2, hlt, hgt, Pa.enc, w1, getA, getA0, setA, setA0, Tsc_mu, Tsc_fns]
       rw [vc_regionW]
       refine ⟨[ex.length + 3], ?_⟩
       simp [f4, f6, f7, hl1, hl2, hp1, hp2, hlt, hgt, Pa.enc, Po.enc, Fr.enc, w1, hr, withC, zPo, zF, getA, getA0, setA, setA0, Tsc_mu, Tsc_fns]
     obtain ⟨d, hd⟩ : ∃ d, d = (addF u.c y.c).1 := ⟨_, rfl⟩
     have od : d.ok = true := by rw [hd]; exact ok_addF he
     have wd : d.wf := by rw [hd]; exact wf_addF _ _
     have d6 : f1 signP [d.enc] = some (.int .i64 (signF d)) := f1_at wd
     have d7 := sign_nil od
     rw [he, ← hd] at w1
     rw [he, ← hd, if_pos rfl] at hmg
     simp only [Fr.enc] at w1 d6
     by_cases dn : d.n = []
     ·rw [decide_eq_true dn] at d7
      have d8 : (signF d != 0) = false := by rw [bne, d7]; rfl
      rcases hg.form with rfl | ⟨kk, nn, vv, rfl⟩
      all_goals
       simp [f4, f6, f7, hl1, hl2, hp1, hp2, hlt, hgt, Pa.enc, w1, getA, getA0, setA, setA0, Tsc_mu, Tsc_fns]
       rw [vc_regionW]
       refine ⟨[ex.length + 3], ?_⟩
       simp [f4, f6, f7, hl1, hl2, hl3, hp1, hp2, hp3, hlt, hgt, Pa.enc, Po.enc, Fr.enc, w1, d6, d8, sizeOk_parts, take_map, getA, getA0, setA, setA0, Tsc_mu, Tsc_fns]
       exact ⟨⟨l, m, es, _, _, ⟨rfl, rfl⟩, by omega, hg.more _, by rw [hmg, Option.map_map]; congr 1; funext z; simp [dn], fun z hz => okl z (by simp [hz]), fun z hz => okm z (by simp [hz]), rfl, rfl⟩, by omega⟩
     ·rw [decide_eq_false dn] at d7
      have d8 : (signF d != 0) = true := by rw [bne, d7]; rfl
      obtain ⟨k', v', ex', happ, hg'⟩ := more d u.t _ rfl (by omega)
      rcases hg.form with rfl | ⟨kk, nn, vv, rfl⟩
      all_goals
       simp [f4, f6, f7, hl1, hl2, hp1, hp2, hlt, hgt, Pa.enc, w1, getA, getA0, setA, setA0, Tsc_mu, Tsc_fns]
       rw [vc_regionW]
       refine ⟨[ex.length + 3], ?_⟩
       simp only [Po.enc, Fr.enc] at happ
       simp [f4, f6, f7, hl1, hl2, hl3, hp1, hp2, hp3, hlt, hgt, Pa.enc, Po.enc, Fr.enc, w1, d6, d8, fillS, -appV, happ, sizeOk_parts, take_map, getA, getA0, setA, setA0, Tsc_mu, Tsc_fns]
       exact ⟨⟨l, m, es ++ [⟨d, u.t⟩], _, _, ⟨rfl, rfl⟩, by simp; omega, hg', by rw [hmg, Option.map_map]; congr 1; funext z; simp [dn], fun z hz => okl z (by simp [hz]), fun z hz => okm z (by simp [hz]), rfl, rfl⟩, by omega⟩
end Go.Proofs.YtgbjjikaenlkmaaGreat

/-
 linear: what a term is where a sum is 0; a sum's value.
-/
namespace Go.Proofs.YtgbjjikaenlkmaaGreat
open Go Go.Abs Go.Limbs
variable {base : Prot}
set_option maxRecDepth 20000
attribute [local irreducible] vc
attribute [local simp] pureS touchV freezeL fuel shiftV u64 au
theorem ofR {n d : Int} (h : (-1000 ≤ n ∧ n ≤ 1000) ∧ (-1000 ≤ d ∧ d ≤ 1000)) : sQOf [.int .i64 n, .int .i64 d] = some (ofQ (Rat.divInt n d)).enc := sQOf_at (by omega) (by omega)
theorem quoP_at {x y : Fr} (hx : x.wf) (hy : y.wf) : f2 quoP [x.enc, y.enc] = some (.tup [(quoF x y).1.enc, .int .i64 (quoF x y).2]) := f2_at hx hy
theorem m1_eq : Rat.divInt (-1) 1 = -1 := by decide +kernel
theorem p1_eq : Rat.divInt 1 1 = 1 := by decide +kernel
abbrev Lk := PVal → Po → Option (Int → Fr)
structure LkOk (T : Tab) (L : Lk) : Prop where
 ok : ∀ c p lk, L c p = some lk → ∃ f caps, c = .clo f caps ∧ ∀ x ∈ p.ps, (lk x.t).wf ∧ T.fn f (.int .i64 x.t :: caps) = some (.p (lk x.t).enc, [])
 mu : ∀ f a H, T.mu f a H = none
structure TVal (T : Tab) : Prop where
 a1 : T.fn 68 = pureS (g1 okPo)
 a2 : T.fn 69 = pureS (f1 boolF)
 a3 : T.fn 75 = pureS sOwn
 a4 : T.fn 70 = pureS (f2 mulP)
 a5 : T.fn 74 = pureS (f2 addP)
end Go.Proofs.YtgbjjikaenlkmaaGreat
