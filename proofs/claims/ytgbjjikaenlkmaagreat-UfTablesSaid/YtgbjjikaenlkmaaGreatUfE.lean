/-
  What uf.Free and uf.Merge compute. Tables: where a table and a row are, their order, copies; what the document fixes. Ways of edges, distances, the least that is not forbidden: the plain law. What uf.Tables computes, where no two applications clash, all constants are given and there are at most two functions; where a table is and what a function is by the document. No conditions beyond the lemmas' own hypotheses.
-/
import Derived.Test.YtgbjjikaenlkmaaGreatAtomB
import Derived.Test.YtgbjjikaenlkmaaGreatNatA
import Derived.Test.YtgbjjikaenlkmaaGreatAbsThree
set_option linter.unusedSimpArgs false
set_option linter.unnecessarySimpa false
set_option linter.unusedVariables false
set_option linter.constructorNameAsVariable false

namespace Go.Proofs.YtgbjjikaenlkmaaGreat
open Go Go.Abs Go.Limbs
variable {base : Prot}
set_option maxRecDepth 20000
attribute [local irreducible] vc
attribute [local simp] za zh freezeL fuel zk u64 au
def um (s : Int) : List Va → List Int
 | [] => []
 | v :: r => if v.k = s then v.el :: um s r else um s r
def mj (els : List Int) (k : Nat) : Nat → Option Nat
 | 0 => none
 | f + 1 => if (k : Int) ∈ els then mj els (k + 1) f else some k
theorem m9 {els : List Int} : ∀ {f k n : Nat}, mj els k f = some n → k ≤ n ∧ (n : Int) ∉ els ∧ ∀ j, k ≤ j → j < n → (j : Int) ∈ els
 | 0, k, n, h => by cases h
 | f + 1, k, n, h => by
  unfold mj at h
  split at h
  ·rename_i hk
   obtain ⟨h1, h2, h3⟩ := m9 h
   refine ⟨by omega, h2, fun j hj hn => ?_⟩
   by_cases he : j = k
   ·subst he; exact hk
   ·exact h3 j (by omega) hn
  ·rename_i hk
   cases h
   exact ⟨Nat.le_refl _, hk, fun j hj hn => by omega⟩
def freeF (s : Int) (vs : List Va) : Option Nat := mj (um s vs) 0 1000
def freeP (s : Int) (vs : List Va) : Option PVal := match freeF s vs with | some n => some (Va.enc ⟨s, false, zF, n⟩) | none => none
theorem tX {els : List Int} : ∀ {f k n : Nat}, mj els k f = some n → n < k + f
 | 0, k, n, h => by cases h
 | f + 1, k, n, h => by
  unfold mj at h
  split at h
  ·have := tX h; omega
  ·cases h; omega
theorem lN (s : Int) {vs : List Va} {i : Nat} {v : Va} (h : vs[i]? = some v) (n : Int) : n ∈ um s (vs.take (i + 1)) ↔ (n ∈ um s (vs.take i) ∨ (v.k = s ∧ n = v.el)) := by
 have ap : ∀ (l m : List Va), um s (l ++ m) = um s l ++ um s m := fun l m => by
  induction l with
  | nil => rfl
  | cons a r ih => simp only [List.cons_append, um]; split <;> simp [ih]
 rw [List.take_add_one, h, ap]
 simp only [Option.toList_some, um, List.mem_append]
 split <;> simp [*]
theorem free_ok : zH Tryz.prog base 18 (za (sp2 cI cVa.lst freeP)) := by
 refine zd zE Tab.none_ok ze low18 fun args z hs hf => ?_
 obtain ⟨s, vs, -, wv, rfl, hz⟩ := kJ hs
 unfold freeP at hz
 cases hn : freeF s vs with
 | none => rw [hn] at hz; cases hz
 | some n =>
 rw [hn] at hz
 cases hz
 unfold freeF at hn
 obtain ⟨-, n1, n2⟩ := m9 hn
 have n3 := tX hn
 have hlen := (hf (.lst (vs.map cVa.enc)) (by simp [Cd.lst])).lst.1
 unfold maxLen at hlen
 simp only [List.length_map] at hlen
 refine ⟨by simp [lf18], ?_⟩
 simp only [cI, Cd.lst]
 simp [lf18]
 simp only [lf18_B0, zr]
 obtain ⟨c0, hc0⟩ : ∃ c : Ent, c = ⟨6, 0, false, [.agg [.p (.int .i64 0), .p (.bool false), .p (.bool false), .tight [], .tight [], .p (.int .i64 0)]], 35⟩ := ⟨_, rfl⟩
 refine zo (fun fr G => ∃ (i : Nat) (es : List AVal), i ≤ vs.length ∧ G[0]? = some c0 ∧ G[1]? = some ⟨0, 0, false, es, 0⟩ ∧ (∀ x ∈ es, ∃ k z, x = qb k z) ∧ (∀ m, qJ m es = if m ∈ um s (vs.take i) then some (.bool true) else none) ∧
  fr 0 = .p (.int .i64 s) ∧ fr 4 = .optr 0 0 0 0 ∧ fr 5 = .omap 1 0 ∧ fr 10 = .p (.lst (vs.map cVa.enc)) ∧ fr 11 = .p (.int .i64 vs.length) ∧ fr 12 = .p (.int .i64 i)) (fun fr _ => vs.length - zA (fr 12))
  ⟨0, [], by omega, by rw [hc0]; rfl, rfl, by simp, by simp [qJ, um], by simp, by simp, by simp, by simp, by simp, by simp⟩ ?_
 rintro fr G ⟨i, es, hi, g0, g1, hes, hmf, f0, f4, f5, f10, f11, f12⟩
 have hG0 : 0 < G.length := (List.getElem?_eq_some_iff.1 g0).1
 have hG1 : 1 < G.length := (List.getElem?_eq_some_iff.1 g1).1
 have hA0 : ∀ Z, (G ++ Z)[0]? = some c0 := fun Z => by rw [List.getElem?_append_left hG0]; exact g0
 have hA1 : ∀ Z, (G ++ Z)[1]? = some ⟨0, 0, false, es, 0⟩ := fun Z => by rw [List.getElem?_append_left hG1]; exact g1
 by_cases h : i < vs.length
 ·obtain ⟨v, hx⟩ : ∃ v, vs[i]? = some v := ⟨_, List.getElem?_eq_getElem h⟩
  have hnx := z3 hx
  have hw := zs (i := i) (by omega)
  have hv : cVa.enc v = .agg [.int .i64 v.k, .bool v.b, .bool v.x.s, .lst (v.x.n.map u64), .lst (v.x.d.map u64), .int .i64 v.el] := rfl
  have htk := lN s hx
  by_cases hk : v.k = s
  ·have hk' : (v.k == s) = true := by simpa using hk
   have hS0 : ∀ Z x, ((G ++ Z).set 1 x)[0]? = some c0 := fun Z x => by rw [List.getElem?_set_ne (by omega)]; exact hA0 Z
   have hS1 : ∀ Z x, ((G ++ Z).set 1 x)[1]? = some x := fun Z x => List.getElem?_set_self (by simp; omega)
   simp [f0, f4, f5, f10, f11, f12, h, hx, hv, hk', hA1, z5, hw, zA, -getElem?_pos, List.getElem?_cons_zero]
   refine ⟨⟨i + 1, by omega, hA0 _, wE v.el (.bool true) es, by rw [hS1], kU _ _ es hes, fun m => ?_, rfl⟩, by omega⟩
   rw [cZ m v.el _ es hes, hmf m]
   by_cases hm : v.el = m
   ·subst hm
    rw [if_pos rfl, if_pos ((htk v.el).2 (.inr ⟨hk, rfl⟩))]
   ·rw [if_neg hm]
    by_cases hm2 : m ∈ um s (vs.take i)
    ·rw [if_pos hm2, if_pos ((htk m).2 (.inl hm2))]
    ·rw [if_neg hm2, if_neg (fun h => by
      rcases (htk m).1 h with h | ⟨_, h⟩
      ·exact hm2 h
      ·exact hm h.symm)]
  ·have hk' : (v.k == s) = false := by simpa using hk
   simp [f0, f4, f5, f10, f11, f12, h, hx, hv, hk', hA0, hA1, z5, hw, zA, -getElem?_pos, List.getElem?_cons_zero]
   refine ⟨⟨i + 1, by omega, hes, fun m => ?_, rfl⟩, by omega⟩
   rw [hmf m]
   by_cases hm2 : m ∈ um s (vs.take i)
   ·rw [if_pos hm2, if_pos ((htk m).2 (.inl hm2))]
   ·rw [if_neg hm2, if_neg (fun h => by
     rcases (htk m).1 h with h | ⟨h, _⟩
     ·exact hm2 h
     ·exact hk h)]
 ·have hil : i = vs.length := by omega
  subst hil
  rw [List.take_of_length_le (Nat.le_refl _)] at hmf
  simp [f0, f11, f12, qv, z5, -getElem?_pos, List.getElem?_cons_zero]
  simp only [lf18_B1, zr]
  obtain ⟨N, hN⟩ : ∃ N, N = G.length := ⟨_, rfl⟩
  refine zo (fun fr G' => ∃ k : Nat, k ≤ n ∧ G'[0]? = some c0 ∧ G'[1]? = some ⟨0, 0, false, es, 0⟩ ∧ G'[N]? = some ⟨6, 0, false, [.agg [.p (.int .i64 s), .p (.bool false), .p (.bool false), .tight [], .tight [], .p (.int .i64 k)]], 35⟩ ∧
   fr 4 = .optr 0 0 0 0 ∧ fr 5 = .omap 1 0 ∧ fr 8 = .optr N 0 0 0) (fun _ G' => n - (match G'[N]? with | some ⟨_, _, _, [.agg [_, _, _, _, _, .p (.int _ k)]], _⟩ => k.toNat | _ => 0)) ⟨0, by omega, hA0 _, hA1 _, by rw [hN]; simp, by simp [f4], by simp [f5], by simp [hN]⟩ ?_
  rintro fr2 G2 ⟨k, hk, q0, q1, qN, k4, k5, k8⟩
  have hNl := (List.getElem?_eq_some_iff.1 qN).1
  have q0l := (List.getElem?_eq_some_iff.1 q0).1
  have hS0 : ∀ x, (G2.set N x)[0]? = some c0 := fun x => by rw [List.getElem?_set_ne (by omega)]; exact q0
  have hS1 : ∀ x, (G2.set N x)[1]? = some ⟨0, 0, false, es, 0⟩ := fun x => by rw [List.getElem?_set_ne (by omega)]; exact q1
  have hSN : ∀ x, (G2.set N x)[N]? = some x := fun x => List.getElem?_set_self hNl
  by_cases hkn : k = n
  ·subst hkn
   have hm : qJ (k : Int) es = none := by rw [hmf, if_neg n1]
   subst hc0
   have hT0 : ∀ x, (G2.set 0 x)[0]? = some x := fun x => List.getElem?_set_self q0l
   simp [k4, k5, k8, q0, q1, qN, hm, zF, Va.enc, Va.cells, hT0, -getElem?_pos, List.getElem?_cons_zero]
  ·have hm : qJ (k : Int) es = some (.bool true) := by rw [hmf, if_pos (n2 k (by omega) (by omega))]
   have hw := zs (i := k) (by omega)
   simp [k4, k5, k8, q1, qN, hm, hw, hS0, hS1, hSN, -getElem?_pos, List.getElem?_cons_zero]
   refine ⟨⟨k + 1, by omega, rfl⟩, ?_⟩
   have hkl : k < n := Nat.lt_of_le_of_ne hk hkn
   exact Nat.sub_lt_sub_left hkl (Nat.lt_succ_self k)
theorem loop_g {T : Tab} {b : LCode} {Q : LExit → AFr → zb → Prop} (J : Nat → AFr → zb → Prop) {m0 : Nat} {fr : AFr} {H : zb} (h0 : J m0 fr H)
  (h : ∀ m fr H, J m fr H → vc T b (cV (fun fr H => ∃ m, J m fr H) (fun fr H => least (fun m => J m fr H)) m Q) fr H) : vc T (.loop b) Q fr H :=
 zo (fun fr H => ∃ m, J m fr H) (fun fr H => least (fun m => J m fr H)) ⟨m0, h0⟩ (fun fr H hI => h _ fr H (rJ hI).1)
theorem xw {J : Nat → AFr → zb → Prop} {m m' : Nat} {fr : AFr} {H : zb} (hj : J m' fr H) (hlt : m' < m) : (∃ m, J m fr H) ∧ least (fun m => J m fr H) < m :=
 ⟨⟨m', hj⟩, Nat.lt_of_le_of_lt ((rJ ⟨m', hj⟩).2 m' hj) hlt⟩
def IntMap (es : List AVal) : Prop := ∀ x ∈ es, ∃ k d, x = qb k (.int .i64 d)
def uU (es : List AVal) (n : Int) : Option Int := match qJ n es with
 | some (.int .i64 d) => some d
 | _ => none
theorem kD : ∀ {es : List AVal} (n : Int), IntMap es → qJ n es = (uU es n).map (fun d => PVal.int .i64 d)
 | [], n, _ => rfl
 | x :: r, n, h => by
  obtain ⟨k, d, rfl⟩ := h x (by simp)
  have ih := kD (es := r) n (fun x hx => h x (by simp [hx]))
  unfold uU at ih ⊢
  by_cases hk : n = k
  ·subst hk; simp [qb, qJ]
  ·simp only [qb, qJ, hk, if_false]
   exact ih
theorem IntMap.put {es : List AVal} (n d : Int) : IntMap es → IntMap (wE n (.int .i64 d) es) := by
 induction es with
 | nil => intro _ x hx; simp [wE] at hx; exact ⟨n, d, hx⟩
 | cons a r ih =>
  intro h x hx
  obtain ⟨k, z, rfl⟩ := h a (by simp)
  by_cases hk : n = k
  ·subst hk
   simp [wE, qb] at hx
   rcases hx with hx | hx
   ·exact ⟨n, d, hx⟩
   ·exact h x (by simp [hx])
  ·simp [wE, qb, hk] at hx
   rcases hx with hx | hx
   ·exact ⟨k, z, hx⟩
   ·exact ih (fun x hx => h x (by simp [hx])) x hx
abbrev St := List AVal × Bool
def w1 (d : Int) : Int := IntKind.i64.wrap (d + 1)
def nJ (st : St) (e : Int × Int) : St := match uU st.1 e.1 with
 | none => st
 | some d => match uU st.1 e.2 with
  | none => (wE e.2 (.int .i64 (w1 d)) st.1, true)
  | some w => if w > w1 d then (wE e.2 (.int .i64 (w1 d)) st.1, true) else st
theorem oN {st : St} {e : Int × Int} (h : IntMap st.1) : IntMap (nJ st e).1 := by
 unfold nJ
 split
 ·exact h
 ·split
  ·exact h.put _ _
  ·split
   ·exact h.put _ _
   ·exact h
def nK (p : Int × Int) : List (Int × Int) := [p, (p.2, p.1)]
def xz (st : St) (p : Int × Int) : St := (nK p).foldl nJ st
theorem oM {st : St} {p : Int × Int} (h : IntMap st.1) : IntMap (xz st p).1 := oN (oN h)
def cu (ps : List (Int × Int)) (st : St) : St := ps.foldl xz st
theorem gV : ∀ (ps : List (Int × Int)) {st : St}, IntMap st.1 → IntMap (cu ps st).1
 | [], _, h => h
 | p :: r, _, h => gV r (oM h)
def m5 (ps : List (Int × Int)) : Nat → List AVal → Option (List AVal)
 | 0, _ => none
 | f + 1, es => if (cu ps (es, false)).2 = true then m5 ps f (cu ps (es, false)).1 else some (cu ps (es, false)).1
theorem tQ {ps : List (Int × Int)} : ∀ {f : Nat} {es r : List AVal}, IntMap es → m5 ps f es = some r → IntMap r
 | 0, _, _, _, h => by cases h
 | f + 1, es, r, hi, h => by
  unfold m5 at h
  have h1 : IntMap (cu ps (es, false)).1 := gV ps hi
  split at h
  ·exact tQ h1 h
  ·cases h; exact h1
def toE (p : Int × Int) (x : Int) : Int := if p.1 = x then p.2 else p.1
def wm (d : Int) : Int := IntKind.i64.wrap (d - 1)
def pz (es : List AVal) (p : Int × Int) (x : Int) : Bool := (decide (p.1 = x) || decide (p.2 = x)) && (match uU es (toE p x) with | some d => decide (d = wm ((uU es x).getD 0)) | none => false)
def stepE (es : List AVal) (ps : List (Int × Int)) (x : Int) : Option (Int × Int) := ps.find? (fun p => pz es p x)
def dW (es : List AVal) (ps : List (Int × Int)) (y : Int) : Nat → Int → Option (List (Int × Int))
 | 0, _ => none
 | f + 1, x => if x = y then some [] else match stepE es ps x with
  | some p => (match dW es ps y f (toE p x) with | some l => some (p :: l) | none => none)
  | none => none
def wayF (ps : List (Int × Int)) (x y : Int) : Option (List (Int × Int) × Int) :=
 match m5 ps 1000 [qb y (.int .i64 0)] with
 | none => none
 | some es => match uU es x with
  | none => some ([], 5)
  | some _ => match dW es ps y 1000 x with
   | some l => some (l, 0)
   | none => none
def wayP (ps : List (Int × Int)) (x y : Int) : Option PVal := if ps.length ≤ 1000000 then (match wayF ps x y with
 | some r => some (.tup [.lst (r.1.map cPr.enc), .int .i64 r.2])
 | none => none) else none
theorem b0_walk {Q : LExit → AFr → zb → Prop} {fr : AFr} {G : zb} {p : Int × Int} {st : St} {kk : Nat} (hI : IntMap st.1) (g0 : G[0]? = some ⟨0, 0, false, st.1, 0⟩) (f8 : fr 8 = .omap 0 0) (f9 : fr 9 = .p (.bool st.2)) (f42 : fr 42 = .own kk 0 2 0) (f43 : fr 43 = .p (.int .i64 2)) (f44 : fr 44 = .p (.int .i64 0))
  (gk : G[kk]? = some ⟨2, 0, false, ((nK p).map cPr.enc).map .p, 67⟩) (hkk : kk ≠ 0)
  (hQ : ∀ fr' G', (fr' 0 = fr 0 ∧ fr' 1 = fr 1 ∧ fr' 2 = fr 2 ∧ fr' 6 = fr 6 ∧ fr' 7 = fr 7 ∧ fr' 8 = fr 8 ∧ fr' 30 = fr 30 ∧ fr' 31 = fr 31 ∧ fr' 32 = fr 32) → G'[0]? = some ⟨0, 0, false, (xz st p).1, 0⟩ → fr' 9 = .p (.bool (xz st p).2) → Q .normal fr' G') : vc Tab.none lf17_B0 Q fr G := by
 simp only [lf17_B0, zr]
 refine zo (fun fr' G' => ∃ (i : Nat) (s : St), i ≤ 2 ∧ IntMap s.1 ∧ (fr' 0 = fr 0 ∧ fr' 1 = fr 1 ∧ fr' 2 = fr 2 ∧ fr' 6 = fr 6 ∧ fr' 7 = fr 7 ∧ fr' 8 = fr 8 ∧ fr' 30 = fr 30 ∧ fr' 31 = fr 31 ∧ fr' 32 = fr 32) ∧ G'[0]? = some ⟨0, 0, false, s.1, 0⟩ ∧ fr' 9 = .p (.bool s.2) ∧ fr' 42 = .own kk 0 2 0 ∧ fr' 43 = .p (.int .i64 2) ∧ fr' 44 = .p (.int .i64 i) ∧
  G'[kk]? = some ⟨2, 0, false, ((nK p).map cPr.enc).map .p, 67⟩ ∧ ((nK p).drop i).foldl nJ s = xz st p) (fun fr' _ => 2 - zA (fr' 44)) ⟨0, st, by omega, hI, ⟨rfl, rfl, rfl, rfl, rfl, rfl, rfl, rfl, rfl⟩, g0, f9, f42, f43, f44, gk, rfl⟩ ?_
 rintro fr1 G1 ⟨i, s, hi, hs, ⟨z0, z1, z2, z6, z7, z8, z30, z31, z32⟩, q0, k9, k42, k43, k44, qk, hfo⟩
 have k8 : fr1 8 = .omap 0 0 := z8.trans f8
 have hl0 := (List.getElem?_eq_some_iff.1 q0).1
 have hlk := (List.getElem?_eq_some_iff.1 qk).1
 by_cases h : i < 2
 ·obtain ⟨e, he⟩ : ∃ e, (nK p)[i]? = some e := ⟨_, List.getElem?_eq_getElem h⟩
  obtain ⟨ea, eb⟩ := e
  have hdr : (nK p).drop i = (ea, eb) :: (nK p).drop (i + 1) := by
   rw [List.drop_eq_getElem_cons (show i < (nK p).length from h), z3 he]
  rw [hdr, List.foldl_cons] at hfo
  have hel : (((nK p).map cPr.enc).map AVal.p)[i]? = some (.p (.agg [.int .i64 ea, .int .i64 eb])) := by
   rw [List.getElem?_map, List.getElem?_map, he]; rfl
  obtain ⟨D, hD⟩ : ∃ D, D = ((nK p).map cPr.enc).map AVal.p := ⟨_, rfl⟩
  have hDm : D = List.map (AVal.p ∘ cPr.enc) (nK p) := by rw [hD, List.map_map]
  rw [← hD] at qk hel
  obtain ⟨es, bb⟩ := s
  simp only at hs q0 k9
  have hw := zs (i := i) (by omega)
  have hfa := kD ea hs
  have hfb := kD eb hs
  have hA0 : ∀ Z, (G1 ++ Z)[0]? = some ⟨0, 0, false, es, 0⟩ := fun Z => by rw [List.getElem?_append_left hl0]; exact q0
  have hS : ∀ Z x, ((G1 ++ Z).set 0 x)[kk]? = some ⟨2, 0, false, D, 67⟩ := fun Z x => by rw [List.getElem?_set_ne (by omega), List.getElem?_append_left hlk]; exact qk
  have hS0 : ∀ Z x, ((G1 ++ Z).set 0 x)[0]? = some x := fun Z x => List.getElem?_set_self (by simp; omega)
  have hAk : ∀ Z, (G1 ++ Z)[kk]? = some ⟨2, 0, false, D, 67⟩ := fun Z => by rw [List.getElem?_append_left hlk]; exact qk
  have h2 : (i : Int) < 2 := by omega
  cases ha : uU es ea with
  | none =>
   rw [ha] at hfa
   have hr : nJ (es, bb) (ea, eb) = (es, bb) := by simp only [nJ, ha]
   rw [hr] at hfo
   simp only [Option.map_none] at hfa
   cases hb : uU es eb with
   | none =>
    rw [hb] at hfb
    simp only [Option.map_none] at hfb
    cases bb <;> (
     simp [k8, k9, k42, k43, k44, qk, h2, hel, hA0, hAk, z0, z1, z2, z6, z7, z30, z31, z32, f8, z5, hfa, hfb, hw, zA, -getElem?_pos, List.getElem?_cons_zero, List.getElem?_cons_succ]
     exact ⟨⟨i + 1, by omega, es, hs, rfl, rfl, hDm, hfo⟩, by omega⟩)
   | some w =>
    rw [hb] at hfb
    simp only [Option.map_some] at hfb
    cases bb <;> (
     simp [k8, k9, k42, k43, k44, qk, h2, hel, hA0, hAk, z0, z1, z2, z6, z7, z30, z31, z32, f8, z5, hfa, hfb, hw, zA, -getElem?_pos, List.getElem?_cons_zero, List.getElem?_cons_succ]
     exact ⟨⟨i + 1, by omega, es, hs, rfl, rfl, hDm, hfo⟩, by omega⟩)
  | some d =>
   rw [ha] at hfa
   simp only [Option.map_some] at hfa
   cases hb : uU es eb with
   | none =>
    rw [hb] at hfb
    simp only [Option.map_none] at hfb
    have hr : nJ (es, bb) (ea, eb) = (wE eb (.int .i64 (w1 d)) es, true) := by simp only [nJ, ha, hb]
    rw [hr] at hfo
    have hin := hs.put eb (w1 d)
    unfold w1 at hfo hin
    simp [k8, k42, k43, k44, qk, h2, hel, hA0, hS, hS0, z0, z1, z2, z6, z7, z30, z31, z32, f8, z5, hfa, hfb, hw, zA, -getElem?_pos, List.getElem?_cons_zero, List.getElem?_cons_succ]
    exact ⟨⟨i + 1, by omega, _, hin, rfl, rfl, hDm, hfo⟩, by omega⟩
   | some w =>
    rw [hb] at hfb
    simp only [Option.map_some] at hfb
    by_cases hwd : w > w1 d
    ·have hr : nJ (es, bb) (ea, eb) = (wE eb (.int .i64 (w1 d)) es, true) := by simp only [nJ, ha, hb, if_pos hwd]
     rw [hr] at hfo
     have hin := hs.put eb (w1 d)
     have hwd' : IntKind.i64.wrap (d + 1) < w := hwd
     unfold w1 at hfo hin
     simp [k8, k42, k43, k44, qk, h2, hel, hA0, hS, hS0, z0, z1, z2, z6, z7, z30, z31, z32, f8, z5, hfa, hfb, hwd', hw, zA, -getElem?_pos, List.getElem?_cons_zero, List.getElem?_cons_succ]
     exact ⟨⟨i + 1, by omega, _, hin, rfl, rfl, hDm, hfo⟩, by omega⟩
    ·have hr : nJ (es, bb) (ea, eb) = (es, bb) := by simp only [nJ, ha, hb, if_neg hwd]
     rw [hr] at hfo
     have hwd' : ¬ IntKind.i64.wrap (d + 1) < w := hwd
     cases bb <;> (
      simp [k8, k9, k42, k43, k44, qk, h2, hel, hA0, hAk, z0, z1, z2, z6, z7, z30, z31, z32, f8, z5, hfa, hfb, hwd', hw, zA, -getElem?_pos, List.getElem?_cons_zero, List.getElem?_cons_succ]
      exact ⟨⟨i + 1, by omega, es, hs, rfl, rfl, hDm, hfo⟩, by omega⟩)
 ·have hi2 : i = 2 := by omega
  subst hi2
  have hfo' : s = xz st p := hfo
  subst hfo'
  simp [k43, k44]
  exact hQ _ _ ⟨by simp [z0], by simp [z1], by simp [z2], by simp [z6], by simp [z7], by simp [z8], by simp [z30], by simp [z31], by simp [z32]⟩ q0 (by simp [k9])
theorem b1_walk {Q : LExit → AFr → zb → Prop} {fr : AFr} {G : zb} {ps : List (Int × Int)} {st : St} (hI : IntMap st.1) (hlen : ps.length ≤ 1000000) (g0 : G[0]? = some ⟨0, 0, false, st.1, 0⟩) (f8 : fr 8 = .omap 0 0) (f9 : fr 9 = .p (.bool st.2)) (f30 : fr 30 = .p (.lst (ps.map cPr.enc))) (f31 : fr 31 = .p (.int .i64 ps.length)) (f32 : fr 32 = .p (.int .i64 0))
  (hQ : ∀ fr' G', (fr' 0 = fr 0 ∧ fr' 1 = fr 1 ∧ fr' 2 = fr 2 ∧ fr' 6 = fr 6 ∧ fr' 7 = fr 7 ∧ fr' 8 = fr 8) → G'[0]? = some ⟨0, 0, false, (cu ps st).1, 0⟩ → fr' 9 = .p (.bool (cu ps st).2) → Q .normal fr' G') : vc Tab.none lf17_B1 Q fr G := by
 simp only [lf17_B1, zr]
 refine zo (fun fr' G' => ∃ (i : Nat) (s : St), i ≤ ps.length ∧ IntMap s.1 ∧ (fr' 0 = fr 0 ∧ fr' 1 = fr 1 ∧ fr' 2 = fr 2 ∧ fr' 6 = fr 6 ∧ fr' 7 = fr 7 ∧ fr' 8 = fr 8) ∧ G'[0]? = some ⟨0, 0, false, s.1, 0⟩ ∧ fr' 9 = .p (.bool s.2) ∧ fr' 30 = .p (.lst (ps.map cPr.enc)) ∧ fr' 31 = .p (.int .i64 ps.length) ∧ fr' 32 = .p (.int .i64 i) ∧
  (ps.drop i).foldl xz s = cu ps st) (fun fr' _ => ps.length - zA (fr' 32)) ⟨0, st, by omega, hI, ⟨rfl, rfl, rfl, rfl, rfl, rfl⟩, g0, f9, f30, f31, f32, rfl⟩ ?_
 rintro fr1 G1 ⟨i, s, hi, hs, ⟨z0, z1, z2, z6, z7, z8⟩, q0, k9, k30, k31, k32, hfo⟩
 have k8 : fr1 8 = .omap 0 0 := z8.trans f8
 have hl0 := (List.getElem?_eq_some_iff.1 q0).1
 by_cases h : i < ps.length
 ·obtain ⟨p, hp⟩ : ∃ p, ps[i]? = some p := ⟨_, List.getElem?_eq_getElem h⟩
  have hnp := z3 hp
  have hdr : ps.drop i = p :: ps.drop (i + 1) := by rw [List.drop_eq_getElem_cons h, hnp]
  rw [hdr, List.foldl_cons] at hfo
  have hw := zs (i := i) (by omega)
  obtain ⟨pa, pb⟩ := p
  have hpe : cPr.enc (pa, pb) = .agg [.int .i64 pa, .int .i64 pb] := rfl
  have hA0 : ∀ Z, (G1 ++ Z)[0]? = some ⟨0, 0, false, s.1, 0⟩ := fun Z => by rw [List.getElem?_append_left hl0]; exact q0
  simp [k30, k31, k32, h, hp, hpe, jM, z5, zO, qv, -getElem?_pos, List.getElem?_cons_zero, List.getElem?_cons_succ]
  refine b0_walk (p := (pa, pb)) (st := s) (kk := G1.length + 1) hs (hA0 _) (by simp [k8]) (by simp [k9]) (by simp) (by simp) (by simp) (by rw [jM]; simp [nK, cPr]) (by omega) fun fr2 G2 ⟨y0, y1, y2, y6, y7, y8, y30, y31, y32⟩ p0 j9 => ?_
  simp at y0 y1 y2 y6 y7 y8 y30 y31 y32
  simp [y0, y1, y2, y6, y7, y8, y30, y31, y32, z0, z1, z2, z6, z7, z8, k30, k31, k32, f8, p0, j9, hw, zA]
  have hin : IntMap (xz s (pa, pb)).1 := oM hs
  generalize xz s (pa, pb) = sp at hin hfo
  obtain ⟨ra, rb⟩ := sp
  refine ⟨⟨i + 1, by omega, ra, hin, rfl, ?_⟩, by omega⟩
  cases rb
  ·exact .inl ⟨rfl, rfl, hfo⟩
  ·exact .inr ⟨rfl, rfl, hfo⟩
 ·have hil : i = ps.length := by omega
  subst hil
  rw [List.drop_of_length_le (Nat.le_refl _)] at hfo
  have hfo' : s = cu ps st := hfo
  subst hfo'
  simp [k31, k32]
  exact hQ _ _ ⟨by simp [z0], by simp [z1], by simp [z2], by simp [z6], by simp [z7], by simp [z8]⟩ q0 (by simp [k9])
theorem b2_walk {Q : LExit → AFr → zb → Prop} {fr : AFr} {G : zb} {ps : List (Int × Int)} {es esF : List AVal} {m : Nat} (hI : IntMap es) (hlen : ps.length ≤ 1000000) (hit : m5 ps m es = some esF) (g0 : G[0]? = some ⟨0, 0, false, es, 0⟩) (f0 : fr 0 = .p (.lst (ps.map cPr.enc))) (f8 : fr 8 = .omap 0 0) (f9 : fr 9 = .p (.bool true))
  (hQ : ∀ fr' G', (fr' 0 = fr 0 ∧ fr' 1 = fr 1 ∧ fr' 2 = fr 2 ∧ fr' 6 = fr 6 ∧ fr' 7 = fr 7 ∧ fr' 8 = fr 8) → G'[0]? = some ⟨0, 0, false, esF, 0⟩ → Q .normal fr' G') : vc Tab.none lf17_B2 Q fr G := by
 simp only [lf17_B2, zr]
 obtain ⟨J, hJ⟩ : ∃ J : Nat → AFr → zb → Prop, J = fun m fr' G' => ∃ es, IntMap es ∧ (fr' 0 = fr 0 ∧ fr' 1 = fr 1 ∧ fr' 2 = fr 2 ∧ fr' 6 = fr 6 ∧ fr' 7 = fr 7 ∧ fr' 8 = fr 8) ∧ G'[0]? = some ⟨0, 0, false, es, 0⟩ ∧ ((fr' 9 = .p (.bool true) ∧ m5 ps m es = some esF) ∨ (fr' 9 = .p (.bool false) ∧ m = 0 ∧ es = esF)) := ⟨_, rfl⟩
 refine loop_g J (m0 := m) (by rw [hJ]; exact ⟨es, hI, ⟨rfl, rfl, rfl, rfl, rfl, rfl⟩, g0, .inl ⟨f9, hit⟩⟩) fun m fr1 G1 hj => ?_
 rw [hJ] at hj
 obtain ⟨es, hes, ⟨z0, z1, z2, z6, z7, z8⟩, q0, ⟨k9, hit⟩ | ⟨k9, rfl, rfl⟩⟩ := hj
 ·simp [k9]
  cases m with
  | zero => cases hit
  | succ m =>
  unfold m5 at hit
  simp [z0, f0]
  refine b1_walk (ps := ps) (st := (es, false)) hes hlen q0 (by simp [z8, f8]) (by simp) (by simp) (by simp) (by simp) fun fr2 G2 ⟨y0, y1, y2, y6, y7, y8⟩ p0 j9 => ?_
  simp at y0 y1 y2 y6 y7 y8
  have hin : IntMap (cu ps (es, false)).1 := gV ps hes
  simp
  split at hit
  ·rename_i hg
   refine xw (m' := m) ?_ (Nat.lt_succ_self m)
   rw [hJ]
   exact ⟨_, hin, ⟨y0.trans z0, y1.trans z1, y2.trans z2, y6.trans z6, y7.trans z7, y8.trans z8⟩, p0, .inl ⟨by rw [j9, hg], hit⟩⟩
  ·rename_i hg
   cases hit
   refine xw (m' := 0) ?_ (Nat.succ_pos m)
   rw [hJ]
   exact ⟨_, hin, ⟨y0.trans z0, y1.trans z1, y2.trans z2, y6.trans z6, y7.trans z7, y8.trans z8⟩, p0, .inr ⟨by rw [j9]; simp at hg; rw [hg], rfl, rfl⟩⟩
 ·simp [k9]
  exact hQ _ _ ⟨by simp [z0], by simp [z1], by simp [z2], by simp [z6], by simp [z7], by simp [z8]⟩ q0
theorem tB {es : List AVal} {ps : List (Int × Int)} {y : Int} : ∀ {f : Nat} {x : Int} {l : List (Int × Int)}, dW es ps y f x = some l → l.length < f
 | 0, _, _, h => by cases h
 | f + 1, x, l, h => by
  unfold dW at h
  split at h
  ·cases h; simp
  ·split at h
   ·split at h
    ·rename_i r hr
     cases h
     have := tB hr
     simp; omega
    ·cases h
   ·cases h
theorem find_drop {α : Type} {q : α → Bool} : ∀ {l : List α} {i : Nat} {p : α}, (l.drop i).find? q = some p → ∀ {a : α}, l[i]? = some a → (q a = true ∧ a = p) ∨ (q a = false ∧ (l.drop (i + 1)).find? q = some p) := by
 intro l i p h a ha
 have hi := (List.getElem?_eq_some_iff.1 ha).1
 have hd : l.drop i = a :: l.drop (i + 1) := by rw [List.drop_eq_getElem_cons hi, z3 ha]
 rw [hd, List.find?_cons] at h
 cases hq : q a with
 | true => rw [hq] at h; cases h; exact .inl ⟨rfl, rfl⟩
 | false => rw [hq] at h; exact .inr ⟨rfl, h⟩
def t8 (G : zb) (v : AVal) (out : List (Int × Int)) : Prop := (out = [] ∧ v = .tight []) ∨ ∃ m w, 0 < m ∧ v = .own m 0 out.length w ∧ G[m]? = some ⟨2, w, false, (out.map cPr.enc).map .p, 67⟩
theorem b3_walk {Q : LExit → AFr → zb → Prop} {fr : AFr} {G : zb} {ps : List (Int × Int)} {es : List AVal} {out : List (Int × Int)} {p : Int × Int} {x : Int} {v20 : AVal} (hI : IntMap es) (hlen : ps.length ≤ 1000000) (hol : out.length ≤ 1000000) (g0 : G[0]? = some ⟨0, 0, false, es, 0⟩) (f1 : fr 1 = .p (.int .i64 x)) (f8 : fr 8 = .omap 0 0) (f20 : fr 20 = v20) (hout : t8 G v20 out)
  (f91 : fr 91 = .p (.lst (ps.map cPr.enc))) (f92 : fr 92 = .p (.int .i64 ps.length)) (f93 : fr 93 = .p (.int .i64 0)) (hst : stepE es ps x = some p) (hfx : ∃ d, uU es x = some d)
  (hQ : ∀ fr' G', (fr' 0 = fr 0 ∧ fr' 2 = fr 2 ∧ fr' 6 = fr 6 ∧ fr' 7 = fr 7 ∧ fr' 8 = fr 8) → G'[0]? = some ⟨0, 0, false, es, 0⟩ → fr' 1 = .p (.int .i64 (toE p x)) → t8 G' (fr' 20) (out ++ [p]) → Q .normal fr' G') : vc Tab.none lf17_B3 Q fr G := by
 simp only [lf17_B3, zr]
 refine zo (fun fr' G' => ∃ (i : Nat), i ≤ ps.length ∧ (fr' 0 = fr 0 ∧ fr' 2 = fr 2 ∧ fr' 6 = fr 6 ∧ fr' 7 = fr 7 ∧ fr' 8 = fr 8) ∧ G'[0]? = some ⟨0, 0, false, es, 0⟩ ∧ fr' 1 = .p (.int .i64 x) ∧ fr' 20 = v20 ∧ t8 G' v20 out ∧ fr' 91 = .p (.lst (ps.map cPr.enc)) ∧ fr' 92 = .p (.int .i64 ps.length) ∧ fr' 93 = .p (.int .i64 i) ∧
  (ps.drop i).find? (fun p => pz es p x) = some p) (fun fr' _ => ps.length - zA (fr' 93)) ⟨0, by omega, ⟨rfl, rfl, rfl, rfl, rfl⟩, g0, f1, f20, hout, f91, f92, f93, hst⟩ ?_
 rintro fr1 G1 ⟨i, hi, ⟨z0, z2, z6, z7, z8⟩, q0, k1, k20, ho, k91, k92, k93, hfd⟩
 have k8 : fr1 8 = .omap 0 0 := z8.trans f8
 have hl0 := (List.getElem?_eq_some_iff.1 q0).1
 by_cases h : i < ps.length
 ·obtain ⟨e, hp⟩ : ∃ p, ps[i]? = some p := ⟨_, List.getElem?_eq_getElem h⟩
  have hnp := z3 hp
  have hw := zs (i := i) (by omega)
  have hfd2 := find_drop hfd hp
  obtain ⟨ea, eb⟩ := e
  have hpe : cPr.enc (ea, eb) = .agg [.int .i64 ea, .int .i64 eb] := rfl
  have hA0 : ∀ Z, (G1 ++ Z)[0]? = some ⟨0, 0, false, es, 0⟩ := fun Z => by rw [List.getElem?_append_left hl0]; exact q0
  obtain ⟨dx, hdx⟩ := hfx
  have hfgx := kD x hI
  rw [hdx] at hfgx
  simp only [Option.map_some] at hfgx
  have hfgt := kD (toE (ea, eb) x) hI
  have hok : pz es (ea, eb) x = ((decide (ea = x) || decide (eb = x)) && (match uU es (toE (ea, eb) x) with | some d => decide (d = IntKind.i64.wrap (dx - 1)) | none => false)) := by
   simp only [pz, hdx, wm]
   rfl
  have hoA : ∀ Z, t8 (G1 ++ Z) v20 out := fun Z => by
   rcases ho with h | ⟨m, w, h1, h2, h3⟩
   ·exact .inl h
   ·exact .inr ⟨m, w, h1, h2, by rw [List.getElem?_append_left (List.getElem?_eq_some_iff.1 h3).1]; exact h3⟩
  unfold toE at hfgt hok
  have hb1 : 1 ≤ maxLen := by decide
  have hb2 : (out.length + 1) * 16 ≤ 140737488355328 := by omega
  have hb3 : out.length + 1 ≤ maxLen := by have : maxLen = 9223372036854775807 := rfl; omega
  by_cases ha : ea = x
  ·simp only [ha, if_true] at hfgt hok
   subst ha
   cases ht : uU es eb with
   | none =>
    rw [ht] at hfgt hok
    simp only [Option.map_none] at hfgt
    simp at hok
    rcases hfd2 with ⟨h1, -⟩ | ⟨-, h2⟩
    ·rw [hok] at h1; cases h1
    ·simp [k1, k8, k20, k91, k92, k93, h, hp, hpe, hA0, hfgt, hw, zA, z0, z2, z6, z7, f8, z5, -getElem?_pos, List.getElem?_cons_zero, List.getElem?_cons_succ]
     exact ⟨⟨i + 1, by omega, hoA _, rfl, h2⟩, by omega⟩
   | some d =>
    rw [ht] at hfgt hok
    simp only [Option.map_some] at hfgt
    by_cases hd : d = IntKind.i64.wrap (dx - 1)
    ·have hd' : (d == IntKind.i64.wrap (dx - 1)) = true := by simpa using hd
     simp [hd] at hok
     rcases hfd2 with ⟨-, h1⟩ | ⟨h1, -⟩
     ·subst h1
      rcases ho with ⟨rfl, rfl⟩ | ⟨m, w, hm0, rfl, gm⟩
      ·simp [k1, k8, k20, k91, k92, k93, h, hp, hpe, hA0, hfgt, hfgx, zA, f8, hd, zO, hb1, jM, z5, -getElem?_pos, List.getElem?_cons_zero, List.getElem?_cons_succ]
       exact hQ _ _ ⟨by simp [z0], by simp [z2], by simp [z6], by simp [z7], by simp [z8]⟩ (hA0 _) (by simp [toE, ]) (.inr ⟨G1.length + 2, 0, by omega, by simp, by rw [jM]; rfl⟩)
      ·obtain ⟨Lo, hLo⟩ : ∃ L, L = (out.map cPr.enc).map AVal.p := ⟨_, rfl⟩
       have hLl : Lo.length = out.length := by rw [hLo]; simp
       rw [← hLo] at gm
       have hml := (List.getElem?_eq_some_iff.1 gm).1
       have hM : ∀ Z, (G1 ++ Z)[m]? = some ⟨2, w, false, Lo, 67⟩ := fun Z => by rw [List.getElem?_append_left hml]; exact gm
       simp [k1, k8, k20, k91, k92, k93, h, hp, hpe, hA0, hfgt, hfgx, zA, f8, hd, zO, hM, hLl, hb2, hb3, jM, z5, -getElem?_pos, List.getElem?_cons_zero, List.getElem?_cons_succ]
       exact hQ _ _ ⟨by simp [z0], by simp [z2], by simp [z6], by simp [z7], by simp [z8]⟩ (by rw [List.getElem?_set_ne (by omega)]; exact hA0 _) (by simp [toE, ]) (.inr ⟨m, w + 1, hm0, by simp, by rw [List.getElem?_set_self (by simp; omega), hLo]; simp [cPr]⟩)
     ·rw [hok] at h1; cases h1
    ·have hd' : (d == IntKind.i64.wrap (dx - 1)) = false := by simpa using hd
     simp [hd] at hok
     rcases hfd2 with ⟨h1, -⟩ | ⟨-, h2⟩
     ·rw [hok] at h1; cases h1
     ·simp [k1, k8, k20, k91, k92, k93, h, hp, hpe, hA0, hfgt, hfgx, hw, zA, z0, z2, z6, z7, f8, hd', z5, -getElem?_pos, List.getElem?_cons_zero, List.getElem?_cons_succ]
      exact ⟨⟨i + 1, by omega, hoA _, rfl, h2⟩, by omega⟩
  ·have ha1 : (ea != x) = true := by simpa using ha
   have ha2 : (ea == x) = false := by simpa using ha
   simp only [ha, if_false] at hfgt hok
   by_cases hb : eb = x
   ·subst hb
    cases ht : uU es ea with
    | none =>
     rw [ht] at hfgt hok
     simp only [Option.map_none] at hfgt
     simp at hok
     rcases hfd2 with ⟨h1, -⟩ | ⟨-, h2⟩
     ·rw [hok] at h1; cases h1
     ·simp [k1, k8, k20, k91, k92, k93, h, hp, hpe, hA0, hfgt, hw, zA, z0, z2, z6, z7, f8, ha1, ha2, z5, -getElem?_pos, List.getElem?_cons_zero, List.getElem?_cons_succ]
      exact ⟨⟨i + 1, by omega, hoA _, rfl, h2⟩, by omega⟩
    | some d =>
     rw [ht] at hfgt hok
     simp only [Option.map_some] at hfgt
     by_cases hd : d = IntKind.i64.wrap (dx - 1)
     ·have hd' : (d == IntKind.i64.wrap (dx - 1)) = true := by simpa using hd
      simp [hd] at hok
      rcases hfd2 with ⟨-, h1⟩ | ⟨h1, -⟩
      ·subst h1
       rcases ho with ⟨rfl, rfl⟩ | ⟨m, w, hm0, rfl, gm⟩
       ·simp [k1, k8, k20, k91, k92, k93, h, hp, hpe, hA0, hfgt, hfgx, zA, f8, hd, ha1, ha2, zO, hb1, jM, z5, -getElem?_pos, List.getElem?_cons_zero, List.getElem?_cons_succ]
        exact hQ _ _ ⟨by simp [z0], by simp [z2], by simp [z6], by simp [z7], by simp [z8]⟩ (hA0 _) (by simp [toE, ha]) (.inr ⟨G1.length + 2, 0, by omega, by simp, by rw [jM]; rfl⟩)
       ·obtain ⟨Lo, hLo⟩ : ∃ L, L = (out.map cPr.enc).map AVal.p := ⟨_, rfl⟩
        have hLl : Lo.length = out.length := by rw [hLo]; simp
        rw [← hLo] at gm
        have hml := (List.getElem?_eq_some_iff.1 gm).1
        have hM : ∀ Z, (G1 ++ Z)[m]? = some ⟨2, w, false, Lo, 67⟩ := fun Z => by rw [List.getElem?_append_left hml]; exact gm
        simp [k1, k8, k20, k91, k92, k93, h, hp, hpe, hA0, hfgt, hfgx, zA, f8, hd, ha1, ha2, zO, hM, hLl, hb2, hb3, jM, z5, -getElem?_pos, List.getElem?_cons_zero, List.getElem?_cons_succ]
        exact hQ _ _ ⟨by simp [z0], by simp [z2], by simp [z6], by simp [z7], by simp [z8]⟩ (by rw [List.getElem?_set_ne (by omega)]; exact hA0 _) (by simp [toE, ha]) (.inr ⟨m, w + 1, hm0, by simp, by rw [List.getElem?_set_self (by simp; omega), hLo]; simp [cPr]⟩)
      ·rw [hok] at h1; cases h1
     ·have hd' : (d == IntKind.i64.wrap (dx - 1)) = false := by simpa using hd
      simp [hd] at hok
      rcases hfd2 with ⟨h1, -⟩ | ⟨-, h2⟩
      ·rw [hok] at h1; cases h1
      ·simp [k1, k8, k20, k91, k92, k93, h, hp, hpe, hA0, hfgt, hfgx, hw, zA, z0, z2, z6, z7, f8, hd', ha1, ha2, z5, -getElem?_pos, List.getElem?_cons_zero, List.getElem?_cons_succ]
       exact ⟨⟨i + 1, by omega, hoA _, rfl, h2⟩, by omega⟩
   ·have hb4 : (eb == x) = false := by simpa using hb
    cases ht : uU es ea with
    | none =>
     rw [ht] at hfgt hok
     simp only [Option.map_none] at hfgt
     simp [hb] at hok
     rcases hfd2 with ⟨h1, -⟩ | ⟨-, h2⟩
     ·rw [hok] at h1; cases h1
     ·simp [k1, k8, k20, k91, k92, k93, h, hp, hpe, hA0, hfgt, hw, zA, z0, z2, z6, z7, f8, ha1, ha2, hb4, z5, -getElem?_pos, List.getElem?_cons_zero, List.getElem?_cons_succ]
      exact ⟨⟨i + 1, by omega, hoA _, rfl, h2⟩, by omega⟩
    | some d =>
     rw [ht] at hfgt hok
     simp only [Option.map_some] at hfgt
     simp [hb] at hok
     rcases hfd2 with ⟨h1, -⟩ | ⟨-, h2⟩
     ·rw [hok] at h1; cases h1
     ·simp [k1, k8, k20, k91, k92, k93, h, hp, hpe, hA0, hfgt, hw, zA, z0, z2, z6, z7, f8, ha1, ha2, hb4, z5, -getElem?_pos, List.getElem?_cons_zero, List.getElem?_cons_succ]
      exact ⟨⟨i + 1, by omega, hoA _, rfl, h2⟩, by omega⟩
 ·have hil : i = ps.length := by omega
  subst hil
  rw [List.drop_of_length_le (Nat.le_refl _)] at hfd
  cases hfd
theorem b4_walk {Q : LExit → AFr → zb → Prop} {fr : AFr} {G : zb} {ps : List (Int × Int)} {es : List AVal} {x y : Int} {l : List (Int × Int)} {m : Nat} (hI : IntMap es) (hlen : ps.length ≤ 1000000) (hll : l.length ≤ 1000000) (hp : dW es ps y m x = some l) (hfx : ∃ d, uU es x = some d) (g0 : G[0]? = some ⟨0, 0, false, es, 0⟩) (f0 : fr 0 = .p (.lst (ps.map cPr.enc))) (f1 : fr 1 = .p (.int .i64 x)) (f2 : fr 2 = .p (.int .i64 y)) (f8 : fr 8 = .omap 0 0) (f20 : fr 20 = .tight [])
  (hQ : ∀ fr' G' out, out = l → t8 G' (fr' 20) out → Q .normal fr' G') : vc Tab.none lf17_B4 Q fr G := by
 simp only [lf17_B4, zr]
 obtain ⟨J, hJ⟩ : ∃ J : Nat → AFr → zb → Prop, J = fun m fr' G' => ∃ (x : Int) (out rest : List (Int × Int)), dW es ps y m x = some rest ∧ l = out ++ rest ∧ (∃ d, uU es x = some d) ∧ G'[0]? = some ⟨0, 0, false, es, 0⟩ ∧ fr' 0 = .p (.lst (ps.map cPr.enc)) ∧ fr' 1 = .p (.int .i64 x) ∧ fr' 2 = .p (.int .i64 y) ∧ fr' 8 = .omap 0 0 ∧ t8 G' (fr' 20) out := ⟨_, rfl⟩
 refine loop_g J (m0 := m) (by rw [hJ]; exact ⟨x, [], l, hp, rfl, hfx, g0, f0, f1, f2, f8, .inl ⟨rfl, f20⟩⟩) fun m fr1 G1 hj => ?_
 rw [hJ] at hj
 obtain ⟨x, out, rest, hp, hl, hfx, q0, k0, k1, k2, k8, ho⟩ := hj
 cases m with
 | zero => cases hp
 | succ m =>
 unfold dW at hp
 by_cases hxy : x = y
 ·rw [if_pos hxy] at hp
  cases hp
  rw [List.append_nil] at hl
  have hb : (x != y) = false := by simpa using hxy
  simp [k1, k2, hb]
  exact hQ _ _ out hl.symm (by simpa using ho)
 ·rw [if_neg hxy] at hp
  have hb : (x != y) = true := by simpa using hxy
  cases hst : stepE es ps x with
  | none => rw [hst] at hp; cases hp
  | some p =>
  rw [hst] at hp
  simp only at hp
  cases hpr : dW es ps y m (toE p x) with
  | none => rw [hpr] at hp; cases hp
  | some r =>
  rw [hpr] at hp
  simp only [Option.some.injEq] at hp
  subst hp
  have hft : ∃ d, uU es (toE p x) = some d := by
   have := List.find?_some hst
   unfold pz at this
   simp only [Bool.and_eq_true] at this
   cases hh : uU es (toE p x) with
   | none => rw [hh] at this; simp at this
   | some d => exact ⟨d, rfl⟩
  have hol : out.length ≤ 1000000 := by
   have := congrArg List.length hl
   simp at this
   omega
  simp [k1, k2, hb, k0]
  refine b3_walk (ps := ps) (p := p) (x := x) (out := out) hI hlen hol q0 (by simp [k1]) (by simp [k8]) rfl (by simpa using ho) (by simp) (by simp) (by simp) hst hfx fun fr2 G2 ⟨y0, y2, y6, y7, y8⟩ p0 j1 jo => ?_
  simp at y0 y2 y6 y7 y8
  simp
  refine xw (m' := m) ?_ (Nat.lt_succ_self m)
  rw [hJ]
  exact ⟨toE p x, out ++ [p], r, hpr, by rw [hl]; simp, hft, p0, y0.trans k0, j1, y2.trans k2, y8.trans k8, jo⟩
theorem merge_ok : zH Tryz.prog base 17 (za (sp3 cPr.lst cI cI wayP)) := by
 refine zd zE Tab.none_ok ze low17 fun args z hs hf => ?_
 obtain ⟨ps, x, y, -, -, -, rfl, hz⟩ := y3 hs
 unfold wayP at hz
 split at hz
 case isFalse => cases hz
 rename_i hlen
 cases hw : wayF ps x y with
 | none => rw [hw] at hz; cases hz
 | some r =>
 rw [hw] at hz
 cases hz
 unfold wayF at hw
 cases hit : m5 ps 1000 [qb y (.int .i64 0)] with
 | none => rw [hit] at hw; cases hw
 | some es =>
 rw [hit] at hw
 simp only at hw
 refine ⟨by simp [lf17], ?_⟩
 simp only [cI, Cd.lst]
 have hI0 : IntMap [qb y (.int .i64 0)] := fun a ha => by simp at ha; exact ⟨y, 0, ha⟩
 have hI := tQ hI0 hit
 have hfx := kD x hI
 simp [lf17, wE]
 refine b2_walk hI0 hlen hit rfl (by simp) (by simp) (by simp) fun fr G ⟨z0, z1, z2, z6, z7, z8⟩ g0 => ?_
 simp at z0 z1 z2 z6 z7 z8
 cases hx : uU es x with
 | none =>
  rw [hx] at hw hfx
  simp only [Option.map_none] at hfx
  cases hw
  simp [z8, z1, g0, hfx]
 | some d =>
  rw [hx] at hw hfx
  simp only [Option.map_some] at hfx
  cases hpp : dW es ps y 1000 x with
  | none => rw [hpp] at hw; cases hw
  | some l =>
  rw [hpp] at hw
  cases hw
  have hll := tB hpp
  simp [z8, z1, g0, hfx]
  refine b4_walk hI hlen (by omega) hpp ⟨d, hx⟩ g0 (by simp [z0]) (by simp [z1]) (by simp [z2]) (by simp [z8]) (by simp) fun fr2 G2 out hout ho => ?_
  subst hout
  rcases ho with ⟨rfl, h20⟩ | ⟨m, w, -, h20, gm⟩
  ·simp [h20]
  ·have ht : List.take out.length ((out.map cPr.enc).map AVal.p) = (out.map cPr.enc).map AVal.p := List.take_of_length_le (by simp)
   simp only [List.map_map] at ht gm
   have hm2 := wM G2 6 (out.map cPr.enc)
   have hm3 := wM G2 7 (out.map cPr.enc)
   simp only [List.map_map] at hm2 hm3
   simp [h20, gm, ht, hm2]
def rL : AVal → Bool
 | .tight _ => true
 | .own _ _ _ _ => true
 | _ => false
def vI : AVal → Option (List UInt8)
 | .agg (.p (.str nm) :: rv :: rest) => if rL rv = true ∧ rest.length = 6 ∧ rest.all AVal.isCell = true then some nm else none
 | _ => none
theorem vS {x : AVal} {nm : List UInt8} (h : vI x = some nm) : ∃ rv r1 r2 r3 r4 r5 r6, x = .agg [.p (.str nm), rv, r1, r2, r3, r4, r5, r6] ∧ rL rv = true ∧ r1.isCell = true ∧ r2.isCell = true ∧ r3.isCell = true ∧ r4.isCell = true ∧ r5.isCell = true ∧ r6.isCell = true := by
 unfold vI at h
 split at h
 ·rename_i rv rest
  split at h
  ·rename_i hc
   cases h
   obtain ⟨h1, h2, h3⟩ := hc
   match rest, h2, h3 with
   | [r1, r2, r3, r4, r5, r6], _, h3 =>
    simp only [List.all_cons, List.all_nil, Bool.and_true, Bool.and_eq_true] at h3
    exact ⟨rv, r1, r2, r3, r4, r5, r6, rfl, h1, h3⟩
  ·cases h
 ·cases h
theorem ui {nm : PVal} {rv : AVal} (h : rL rv = true) (l : List AVal) : cw (.p nm :: rv :: l) = .agg (.p nm :: rv :: l) ∧ rv.isCell = true := by
 cases rv <;> first | (cases h; done) | exact ⟨rfl, rfl⟩
theorem dZ {nm : PVal} {rv : AVal} (h : rL rv = true) (l : List AVal) : jd (.p nm :: rv :: l) = none := by
 cases rv <;> first | (cases h; done) | rfl
def mW (H : zb) (q w : Nat) : Option (List UInt8) := match H[q]? with
 | some e => if e.ver = w then (match e.elems with
  | [.p (.agg [.int .i64 _, .str f, .lst _])] => some f
  | _ => none) else none
 | none => none
theorem lA {H : zb} {q w : Nat} {f : List UInt8} (h : mW H q w = some f) : ∃ e a b, H[q]? = some e ∧ e.ver = w ∧ e.elems = [.p (.agg [.int .i64 a, .str f, .lst b])] := by
 unfold mW at h
 split at h
 ·rename_i e he
  split at h
  ·rename_i hv
   split at h
   ·rename_i a f' b hel
    cases h
    exact ⟨e, a, b, he, hv, hel⟩
   ·cases h
  ·cases h
 ·cases h
def sTb1 : List AVal → zb → Option (AVal × zb)
 | [x, .optr q w 0 0], H => match vI x with
  | some nm => (match mW H q w with
   | some f => some (.p (.bool (nm == f)), H)
   | none => none)
  | none => none
 | _, _ => none
theorem tb1_ok : yO Tryz.prog base 29 sTb1 := by
 refine qY zE Tab.none_ok ze low29 fun args H r H' hs hf hb => ?_
 unfold sTb1 at hs
 split at hs
 case h_2 => cases hs
 rename_i x q w
 cases hx : vI x with
 | none => rw [hx] at hs; cases hs
 | some nm =>
 rw [hx] at hs
 cases hm : mW H q w with
 | none => rw [hm] at hs; cases hs
 | some f =>
 rw [hm] at hs
 cases hs
 obtain ⟨rv, r1, r2, r3, r4, r5, r6, rfl, c7, c1, c2, c3, c4, c5, c6⟩ := vS hx
 obtain ⟨e, a, b, he, hv, hel⟩ := lA hm
 obtain ⟨es, ev, ef, ee, et⟩ := e
 simp only at hv hel
 subst hv hel
 refine ⟨by simp [lf29], rfl, hb, .p _, ?_⟩
 have hl := (List.getElem?_eq_some_iff.1 he).1
 have hA : ∀ Z, (H ++ Z)[q]? = some ⟨es, ev, ef, [.p (.agg [.int .i64 a, .str f, .lst b])], et⟩ := fun Z => by rw [List.getElem?_append_left hl]; exact he
 have hb1 : yU .eql nm f = some (.bool (nm == f)) := rfl
 have c0 : (AVal.p (.str nm)).isCell = true := rfl
 have c8 := (ui (nm := .str nm) c7 []).2
 simp [lf29, -AVal.isCell, c0, c1, c2, c3, c4, c5, c6, c8, hA, z5, hb1, yw, finish, zN, qI, -getElem?_pos, List.getElem?_cons_zero, List.getElem?_cons_succ]
def lD (f : List UInt8) : List AVal → Nat → Option Int
 | [], _ => some (-1)
 | x :: r, i => match vI x with
  | some nm => if (nm == f) = true then some i else lD f r (i + 1)
  | none => none
def sIxT : List AVal → zb → Option (AVal × zb)
 | [.tight [], .clo 29 [.optr _ _ 0 0]], H => some (.p (.int .i64 (-1)), H)
 | [.own k 0 n v, .clo 29 [.optr q w 0 0]], H => match H[k]? with
  | some e => if e.ver = v ∧ e.size = 8 ∧ n = e.elems.length ∧ n ≤ 1000000 then
    (match mW H q w with
    | some f => (match lD f e.elems 0 with | some i => some (.p (.int .i64 i), H) | none => none)
    | none => none)
   else none
  | none => none
 | _, _ => none
def Tix1 : Tab := Tab.none.own 29 sTb1
theorem Tix1_ok : TabOk Tryz.prog base Tix1 := Tab.own_ok Tab.none_ok tb1_ok
def sTb1K := sTb1
theorem Tix1_mu (a : List AVal) (H : zb) : Tix1.mu 29 a H = sTb1K a H := rfl
theorem ixT_ok : yO Tryz.prog base 28 sIxT := by
 refine qY zE Tix1_ok ze low28 fun args H r H' hs hf hb => ?_
 unfold sIxT at hs
 split at hs
 case h_3 => cases hs
 ·rename_i q w
  cases hs
  refine ⟨by simp [lf28], rfl, hb, .p _, ?_⟩
  simp [lf28]
  simp only [lf28_B0, zr]
  refine zo (fun fr G => G = H ∧ fr 7 = .p (.int .i64 0) ∧ fr 8 = .p (.int .i64 0)) (fun _ _ => 0) ⟨rfl, by simp, by simp⟩ ?_
  rintro fr G ⟨rfl, f7, f8⟩
  simp [f7, f8, yw, finish, zN, qI]
 ·rename_i k n v q w
  cases hk : H[k]? with
  | none => rw [hk] at hs; cases hs
  | some e =>
  rw [hk] at hs
  simp only at hs
  split at hs
  case isFalse => cases hs
  rename_i hc
  obtain ⟨h1, h2, h3, h4⟩ := hc
  cases hm : mW H q w with
  | none => rw [hm] at hs; cases hs
  | some f =>
  rw [hm] at hs
  simp only at hs
  cases hi : lD f e.elems 0 with
  | none => rw [hi] at hs; cases hs
  | some i =>
  rw [hi] at hs
  cases hs
  obtain ⟨es, ev, ef, ee, et⟩ := e
  simp only at h1 h2 h3 hi
  subst h1 h2 h3
  refine ⟨by simp [lf28], rfl, hb, .p _, ?_⟩
  simp [lf28, hk]
  simp only [lf28_B0, zr]
  refine zo (fun fr G => G = H ∧ ∃ j : Nat, j ≤ ee.length ∧ fr 0 = .own k 0 ee.length ev ∧ fr 1 = .clo 29 [.optr q w 0 0] ∧ fr 7 = .p (.int .i64 ee.length) ∧ fr 8 = .p (.int .i64 j) ∧ lD f (ee.drop j) j = some i) (fun fr _ => ee.length - zA (fr 8)) ⟨rfl, 0, by omega, by simp, by simp, by simp, by simp, by simpa using hi⟩ ?_
  rintro fr G ⟨rfl, j, hj, f0, f1, f7, f8, hix⟩
  by_cases h : j < ee.length
  ·obtain ⟨x, hx⟩ : ∃ x, ee[j]? = some x := ⟨_, List.getElem?_eq_getElem h⟩
   have hnx := z3 hx
   have hdr : ee.drop j = x :: ee.drop (j + 1) := by rw [List.drop_eq_getElem_cons h, hnx]
   rw [hdr] at hix
   simp only [lD] at hix
   have hw := zs (i := j) (by omega)
   cases hn : vI x with
   | none => rw [hn] at hix; cases hix
   | some nm =>
   rw [hn] at hix
   simp only at hix
   have hcall : sTb1K [x, .optr q w 0 0] G = some (.p (.bool (nm == f)), G) := by simp only [sTb1K, sTb1, hn, hm]
   obtain ⟨rv, r1, r2, r3, r4, r5, r6, rfl, c7, c1, c2, c3, c4, c5, c6⟩ := vS hn
   have hma := dZ (nm := .str nm) c7 [r1, r2, r3, r4, r5, r6]
   cases hnf : (nm == f) with
   | true =>
    rw [hnf] at hix hcall
    simp only [if_true, Option.some.injEq] at hix
    subst hix
    simp [f0, f1, f7, f8, h, hk, hx, hcall, hma, Tix1_mu, yw, finish, zN, qI, -getElem?_pos]
   | false =>
    rw [hnf] at hix hcall
    simp only [Bool.false_eq_true, if_false] at hix
    simp [f0, f1, f7, f8, h, hk, hx, hcall, hma, hw, zA, Tix1_mu, -getElem?_pos]
    exact ⟨⟨j + 1, by omega, rfl, hix⟩, by omega⟩
  ·have hil : j = ee.length := by omega
   subst hil
   rw [List.drop_of_length_le (Nat.le_refl _)] at hix
   cases hix
   simp [f7, f8, yw, finish, zN, qI]
def nC (H : zb) (q w : Nat) : Option (List Va) := match H[q]? with
 | some e => if e.ver = w then (match e.elems with
  | [.p (.lst al)] => ju cVa.dec al
  | _ => none) else none
 | none => none
theorem zaa {H : zb} {q w : Nat} {l : List Va} (h : nC H q w = some l) : cVa.wfL l ∧ ∃ e, H[q]? = some e ∧ e.ver = w ∧ e.elems = [.p (.lst (l.map Va.enc))] := by
 unfold nC at h
 split at h
 ·rename_i e he
  split at h
  ·rename_i hv
   split at h
   ·rename_i al hel
    obtain ⟨rfl, wl⟩ := cVa.edL _ _ h
    exact ⟨wl, e, he, hv, hel⟩
   ·cases h
  ·cases h
 ·cases h
def ov : List AVal → zb → Option (AVal × zb)
 | [.p x, .optr q w 0 0], H => match cRw.dec x with
  | some r => (match nC H q w with
   | some l => some (.p (.bool (qf r.ag l)), H)
   | none => none)
  | none => none
 | _, _ => none
def Trw1 : Tab := Tab.none.with 48 (za oA)
theorem Trw1_ok : TabOk Tryz.prog base Trw1 := Tab.with_ok Tab.none_ok eqv_ok
theorem Trw1_mu (f : FuncId) (a : List AVal) (H : zb) : Trw1.mu f a H = none := (rfl)
theorem Trw1_fns : Trw1.fn 48 = (za oA) := (rfl)
theorem row1_ok : yO Tryz.prog base 55 ov := by
 refine qY zE Trw1_ok ze low55 fun args H r H' hs hf hb => ?_
 unfold ov at hs
 split at hs
 case h_2 => cases hs
 rename_i x q w
 cases hx : cRw.dec x with
 | none => rw [hx] at hs; cases hs
 | some rw' =>
 rw [hx] at hs
 simp only at hs
 cases hm : nC H q w with
 | none => rw [hm] at hs; cases hs
 | some l =>
 rw [hm] at hs
 cases hs
 obtain ⟨rfl, wr⟩ := cRw.ed _ _ hx
 obtain ⟨wl, e, he, hv, hel⟩ := zaa hm
 obtain ⟨es, ev, ef, ee, et⟩ := e
 simp only at hv hel
 subst hv hel
 refine ⟨by simp [lf55], rfl, hb, .p _, ?_⟩
 have hl := (List.getElem?_eq_some_iff.1 he).1
 have hA : ∀ Z, (H ++ Z)[q]? = some ⟨es, ev, ef, [.p (.lst (l.map Va.enc))], et⟩ := fun Z => by rw [List.getElem?_append_left hl]; exact he
 have hE := sEqV_at wr.1 wl
 simp only [cRw]
 simp [lf55, Va.cells, hA, z5, hE, yw, finish, zN, qI, Trw1_mu, Trw1_fns, -getElem?_pos, List.getElem?_cons_zero, List.getElem?_cons_succ]
def uT (l : List Va) : List Rw → Nat → Int
 | [], _ => -1
 | r :: t, i => if qf r.ag l = true then i else uT l t (i + 1)
def p6 (es : List AVal) : Option (List Rw) := match jd es with | some ps => ju cRw.dec ps | none => none
theorem iC {es : List AVal} {rs : List Rw} (h : p6 es = some rs) : es = (rs.map cRw.enc).map AVal.p ∧ cRw.wfL rs := by
 unfold p6 at h
 cases ha : jd es with
 | none => rw [ha] at h; cases h
 | some ps =>
  rw [ha] at h
  obtain ⟨rfl, w⟩ := cRw.edL _ _ h
  exact ⟨jb ha, w⟩
theorem rowsA_at {rs : List Rw} (h : cRw.wfL rs) : p6 ((rs.map cRw.enc).map AVal.p) = some rs := by
 unfold p6
 rw [aD]
 exact cRw.deL rs h
def sIxR : List AVal → zb → Option (AVal × zb)
 | [.tight [], .clo 55 [.optr _ _ 0 0]], H => some (.p (.int .i64 (-1)), H)
 | [.own k 0 n v, .clo 55 [.optr q w 0 0]], H => match H[k]? with
  | some e => if e.ver = v ∧ e.size = 7 ∧ n = e.elems.length ∧ n ≤ 1000000 then
    (match nC H q w with
    | some l => (match p6 e.elems with | some rs => some (.p (.int .i64 (uT l rs 0)), H) | none => none)
    | none => none)
   else none
  | none => none
 | _, _ => none
def Tir : Tab := Tab.none.own 55 ov
theorem Tir_ok : TabOk Tryz.prog base Tir := Tab.own_ok Tab.none_ok row1_ok
def io := ov
theorem Tir_mu (a : List AVal) (H : zb) : Tir.mu 55 a H = io a H := rfl
theorem ixR_ok : yO Tryz.prog base 54 sIxR := by
 refine qY zE Tir_ok ze low54 fun args H r H' hs hf hb => ?_
 unfold sIxR at hs
 split at hs
 case h_3 => cases hs
 ·rename_i q w
  cases hs
  refine ⟨by simp [lf54], rfl, hb, .p _, ?_⟩
  simp [lf54]
  simp only [lf54_B0, zr]
  refine zo (fun fr G => G = H ∧ fr 7 = .p (.int .i64 0) ∧ fr 8 = .p (.int .i64 0)) (fun _ _ => 0) ⟨rfl, by simp, by simp⟩ ?_
  rintro fr G ⟨rfl, f7, f8⟩
  simp [f7, f8, yw, finish, zN, qI]
 ·rename_i k n v q w
  cases hk : H[k]? with
  | none => rw [hk] at hs; cases hs
  | some e =>
  rw [hk] at hs
  simp only at hs
  split at hs
  case isFalse => cases hs
  rename_i hc
  obtain ⟨h1, h2, h3, h4⟩ := hc
  cases hm : nC H q w with
  | none => rw [hm] at hs; cases hs
  | some l =>
  rw [hm] at hs
  simp only at hs
  cases hi : p6 e.elems with
  | none => rw [hi] at hs; cases hs
  | some rs =>
  rw [hi] at hs
  cases hs
  obtain ⟨es, ev, ef, ee, et⟩ := e
  simp only at h1 h2 h3 hi
  obtain ⟨rfl, wrs⟩ := iC hi
  simp only [List.length_map] at h3
  subst h1 h2 h3
  refine ⟨by simp [lf54], rfl, hb, .p _, ?_⟩
  simp [lf54, hk]
  simp only [lf54_B0, zr]
  refine zo (fun fr G => G = H ∧ ∃ j : Nat, j ≤ rs.length ∧ fr 0 = .own k 0 rs.length ev ∧ fr 1 = .clo 55 [.optr q w 0 0] ∧ fr 7 = .p (.int .i64 rs.length) ∧ fr 8 = .p (.int .i64 j) ∧ uT l (rs.drop j) j = uT l rs 0) (fun fr _ => rs.length - zA (fr 8)) ⟨rfl, 0, by omega, by simp, by simp, by simp, by simp, by simp⟩ ?_
  rintro fr G ⟨rfl, j, hj, f0, f1, f7, f8, hix⟩
  by_cases h : j < rs.length
  ·obtain ⟨x, hx⟩ : ∃ x, rs[j]? = some x := ⟨_, List.getElem?_eq_getElem h⟩
   have hnx := z3 hx
   have hdr : rs.drop j = x :: rs.drop (j + 1) := by rw [List.drop_eq_getElem_cons h, hnx]
   rw [hdr] at hix
   simp only [uT] at hix
   have hw := zs (i := j) (by omega)
   have hcall : io [.p (cRw.enc x), .optr q w 0 0] G = some (.p (.bool (qf x.ag l)), G) := by simp only [io, ov, cRw.de x (wrs x (List.mem_of_getElem? hx)), hm]
   have hxe : cRw.enc x = .agg [.lst (x.ag.map Va.enc), .int .i64 x.v.k, .bool x.v.b, .bool x.v.x.s, .lst (x.v.x.n.map u64), .lst (x.v.x.d.map u64), .int .i64 x.v.el] := rfl
   rw [hxe] at hcall
   cases hnf : qf x.ag l with
   | true =>
    rw [hnf] at hix hcall
    simp only [if_true] at hix
    rw [← hix]
    simp [f0, f1, f7, f8, h, hk, hx, hcall, hxe, Tir_mu, yw, finish, zN, qI, jd, -getElem?_pos]
   | false =>
    rw [hnf] at hix hcall
    simp only [Bool.false_eq_true, if_false] at hix
    simp [f0, f1, f7, f8, h, hk, hx, hcall, hxe, hw, zA, Tir_mu, -getElem?_pos]
    exact ⟨⟨j + 1, by omega, rfl, hix⟩, by omega⟩
  ·have hil : j = rs.length := by omega
   subst hil
   rw [List.drop_of_length_le (Nat.le_refl _)] at hix
   rw [← hix]
   simp [f7, f8, uT, yw, finish, zN, qI]
def pZ (H : zb) : AVal → Option (List Rw)
 | .tight [] => some []
 | .own k 0 n v => match H[k]? with
  | some e => if e.ver = v ∧ e.size = 7 ∧ n = e.elems.length ∧ n ≤ 1000000 then p6 e.elems else none
  | none => none
 | _ => none
def sRow : List AVal → zb → Option (AVal × zb)
 | [.agg (.p nm :: rv :: rest), .p (.lst al)], H => match vI (.agg (.p nm :: rv :: rest)) with
  | some _ => (match pZ H rv with
   | some rs => (match ju cVa.dec al with
    | some l => some (.p (.int .i64 (uT l rs 0)), H)
    | none => none)
   | none => none)
  | none => none
 | _, _ => none
def Tro24 : Tab := Tab.none.own 54 sIxR
theorem Tro24_ok : TabOk Tryz.prog base Tro24 := Tab.own_ok Tab.none_ok ixR_ok
def sIxRK := sIxR
theorem Tro24_mu (a : List AVal) (H : zb) : Tro24.mu 54 a H = sIxRK a H := rfl
theorem urow_ok : yO Tryz.prog base 31 sRow := by
 refine qY zE Tro24_ok ze low31 fun args H r H' hs hf hb => ?_
 unfold sRow at hs
 split at hs
 case h_2 => cases hs
 rename_i nm rv rest al
 cases hn : vI (.agg (.p nm :: rv :: rest)) with
 | none => rw [hn] at hs; cases hs
 | some nm' =>
 rw [hn] at hs
 simp only at hs
 cases hr : pZ H rv with
 | none => rw [hr] at hs; cases hs
 | some rs =>
 rw [hr] at hs
 simp only at hs
 cases ha : ju cVa.dec al with
 | none => rw [ha] at hs; cases hs
 | some l =>
 rw [ha] at hs
 cases hs
 obtain ⟨rfl, wl⟩ := cVa.edL _ _ ha
 obtain ⟨rv', r1, r2, r3, r4, r5, r6, he, c7, c1, c2, c3, c4, c5, c6⟩ := vS hn
 cases he
 refine ⟨by simp [lf31], rfl, hb, .p _, ?_⟩
 have c0 : (AVal.p (.str nm')).isCell = true := rfl
 have c8 := (ui (nm := .str nm') c7 []).2
 have c9 : (AVal.p (.lst (l.map Va.enc))).isCell = true := rfl
 have e0 : cVa.enc = Va.enc := rfl
 rw [e0]
 have harg : ∀ (z : Ent), nC (H ++ [z, ⟨1, 0, false, [.p (.lst (l.map Va.enc))], 56⟩]) (H.length + 1) 0 = some l := fun z => by
  unfold nC
  rw [jM]
  simp only [List.getElem?_cons_succ, List.getElem?_cons_zero, if_true]
  exact cVa.deL l wl
 have hcall : ∀ (z : Ent), sIxRK [rv, .clo 55 [.optr (H.length + 1) 0 0 0]] (H ++ [z, ⟨1, 0, false, [.p (.lst (l.map Va.enc))], 56⟩]) = some (.p (.int .i64 (uT l rs 0)), H ++ [z, ⟨1, 0, false, [.p (.lst (l.map Va.enc))], 56⟩]) := fun z => by
  unfold pZ at hr
  split at hr
  ·cases hr; rfl
  ·rename_i k n v
   cases hk : H[k]? with
   | none => rw [hk] at hr; cases hr
   | some e =>
   rw [hk] at hr
   simp only at hr
   split at hr
   case isFalse => cases hr
   rename_i hc
   have hkl := (List.getElem?_eq_some_iff.1 hk).1
   simp only [sIxRK, sIxR]
   rw [List.getElem?_append_left hkl, hk]
   simp only
   rw [if_pos hc, harg]
   simp only [hr]
  ·cases hr
 simp [lf31, -AVal.isCell, c0, c1, c2, c3, c4, c5, c6, c8, c9, z5, tF, jd, hcall, Tro24_mu, yw, finish, zN, qI, -getElem?_pos, List.getElem?_cons_zero, List.getElem?_cons_succ]
def is : List PVal → Option PVal
 | [.str _] => some (.bool false)
 | _ => none
theorem nas_ok : zH Tryz.prog base 58 (za is) := by
 refine zd zE Tab.none_ok ze low58 fun args z hs hf => ?_
 unfold is at hs
 split at hs
 case h_2 => cases hs
 rename_i x
 cases hs
 have e1 : yU .neq x x = some (.bool (!(x == x))) := rfl
 exact ⟨by simp [lf58], by simp [lf58, e1]⟩
def sQ (a b : List UInt8) : Int := if Op.bytesLess a b = true then -1 else if (!(Op.bytesLess a b || a == b)) = true then 1 else 0
def sCmS : List PVal → Option PVal
 | [.str a, .str b] => some (.int .i64 (sQ a b))
 | _ => none
def Tcms : Tab := Tab.none.with 58 (za is)
theorem Tcms_ok : TabOk Tryz.prog base Tcms := Tab.with_ok Tab.none_ok nas_ok
theorem fH (f : FuncId) (a : List AVal) (H : zb) : Tcms.mu f a H = none := (rfl)
theorem sD : Tcms.fn 58 = (za is) := (rfl)
theorem cms_ok : zH Tryz.prog base 34 (za sCmS) := by
 refine zd zE Tcms_ok ze low34 fun args z hs hf => ?_
 unfold sCmS at hs
 split at hs
 case h_2 => cases hs
 rename_i a b
 cases hs
 have e1 : yU .lss a b = some (.bool (Op.bytesLess a b)) := rfl
 have e2 : yU .gtr a b = some (.bool (!(Op.bytesLess a b || a == b))) := rfl
 refine ⟨by simp [lf34], ?_⟩
 cases h1 : Op.bytesLess a b with
 | true => simp [lf34, is, e1, sQ, h1, fH, sD]
 | false =>
  cases h2 : (a == b) with
  | true => simp [-beq_iff_eq, lf34, is, e1, e2, sQ, h1, h2, fH, sD]
  | false => simp [-beq_iff_eq, -beq_eq_false_iff_ne, lf34, is, e1, e2, sQ, h1, h2, fH, sD]
def sTb2 : List AVal → zb → Option (AVal × zb)
 | [x, y], H => match vI x with
  | some f => (match vI y with
   | some g => some (.p (.int .i64 (sQ f g)), H)
   | none => none)
  | none => none
 | _, _ => none
def Ttb2 : Tab := Tab.none.with 34 (za sCmS)
theorem Ttb2_ok : TabOk Tryz.prog base Ttb2 := Tab.with_ok Tab.none_ok cms_ok
theorem Ttb2_mu (f : FuncId) (a : List AVal) (H : zb) : Ttb2.mu f a H = none := (rfl)
theorem Ttb2_fns : Ttb2.fn 34 = (za sCmS) := (rfl)
theorem tb2_ok : yO Tryz.prog base 33 sTb2 := by
 refine qY zE Ttb2_ok ze low33 fun args H r H' hs hf hb => ?_
 unfold sTb2 at hs
 split at hs
 case h_2 => cases hs
 rename_i x y
 cases hx : vI x with
 | none => rw [hx] at hs; cases hs
 | some f =>
 rw [hx] at hs
 simp only at hs
 cases hy : vI y with
 | none => rw [hy] at hs; cases hs
 | some g =>
 rw [hy] at hs
 cases hs
 obtain ⟨rv, r1, r2, r3, r4, r5, r6, rfl, c7, c1, c2, c3, c4, c5, c6⟩ := vS hx
 obtain ⟨sv, s1, s2, s3, s4, s5, s6, rfl, d7, d1, d2, d3, d4, d5, d6⟩ := vS hy
 refine ⟨by simp [lf33], rfl, hb, .p _, ?_⟩
 have c0 : (AVal.p (.str f)).isCell = true := rfl
 have c8 := (ui (nm := .str f) c7 []).2
 have d0 : (AVal.p (.str g)).isCell = true := rfl
 have d8 := (ui (nm := .str g) d7 []).2
 simp [lf33, -AVal.isCell, c0, c1, c2, c3, c4, c5, c6, c8, d0, d1, d2, d3, d4, d5, d6, d8, jM, z5, sCmS, Ttb2_mu, Ttb2_fns, yw, finish, zN, qI, -getElem?_pos, List.getElem?_cons_zero, List.getElem?_cons_succ]
def y4 : List AVal → Option (List AVal)
 | [] => some []
 | [x] => some [x]
 | [x, y] => match vI x with
  | some f => (match vI y with
   | some g => if Op.bytesLess g f = true then some [y, x] else some [x, y]
   | none => none)
  | none => none
 | _ => none
def xr : List AVal → zb → Option (AVal × zb)
 | [.own k 0 n v, .p (.int .i64 0), .p (.int .i64 m), .p (.clo 33 [])], H => match H[k]? with
  | some e => if e.ver = v ∧ e.size = 8 ∧ e.froz = false ∧ n = e.elems.length ∧ m = n then
    (match y4 e.elems with
    | some l => some (.p (.tup []), H.set k ⟨e.size, e.ver, e.froz, l, e.ty⟩)
    | none => none)
   else none
  | none => none
 | [.tight [], .p (.int .i64 0), .p (.int .i64 0), .p (.clo 33 [])], H => some (.p (.tup []), H)
 | _, _ => none
def Tins : Tab := Tab.none.own 33 sTb2
theorem Tins_ok : TabOk Tryz.prog base Tins := Tab.own_ok Tab.none_ok tb2_ok
def sTb2K := sTb2
theorem Tins_mu (a : List AVal) (H : zb) : Tins.mu 33 a H = sTb2K a H := rfl
theorem set_self {α : Type} {l : List α} {k : Nat} {e : α} (h : l[k]? = some e) : l.set k e = l := by
 obtain ⟨hk, h'⟩ := List.getElem?_eq_some_iff.1 h
 subst h'
 exact List.set_getElem_self hk
theorem less_cmp (a b : List UInt8) : decide (sQ a b < 0) = Op.bytesLess a b := by
 unfold sQ
 cases Op.bytesLess a b with
 | true => simp
 | false => simp; split <;> simp
theorem ins_ok : yO Tryz.prog base 91 xr := by
 refine gX zE Tins_ok ze low91 fun args H r H' hs hf => ?_
 unfold xr at hs
 split at hs
 case h_3 => cases hs
 case h_2 =>
  cases hs
  have w01 : IntKind.i64.wrap 1 = 1 := by decide
  refine ⟨by simp [lf91], ?_⟩
  simp [lf91, w01]
  simp only [lf91_B1, zr]
  refine zo (fun fr G => G = H ∧ fr 2 = .p (.int .i64 0) ∧ fr 8 = .p (.int .i64 1)) (fun _ _ => 0) ⟨rfl, by simp, by simp⟩ ?_
  rintro fr G ⟨rfl, f2, f8⟩
  simp [f2, f8, jc, finish, zN]
 rename_i k n v m
 cases hk : H[k]? with
 | none => rw [hk] at hs; cases hs
 | some e =>
 rw [hk] at hs
 simp only at hs
 split at hs
 case isFalse => cases hs
 rename_i hc
 obtain ⟨es, ev, ef, ee, et⟩ := e
 obtain ⟨h1, h2, h3, h4, h5⟩ := hc
 simp only at h1 h2 h3 h4 hs
 subst h1 h2 h3 h4 h5
 cases hso : y4 ee with
 | none => rw [hso] at hs; cases hs
 | some l =>
 rw [hso] at hs
 cases hs
 refine ⟨by simp [lf91], ?_⟩
 have w01 : IntKind.i64.wrap 1 = 1 := by decide
 have w02 : IntKind.i64.wrap 2 = 2 := by decide
 have w00 : IntKind.i64.wrap 0 = 0 := by decide
 simp [lf91, w01]
 simp only [lf91_B1, zr]
 match ee, hso with
 | [], hso =>
  cases hso
  refine zo (fun fr G => G = H ∧ fr 2 = .p (.int .i64 0) ∧ fr 8 = .p (.int .i64 1)) (fun _ _ => 0) ⟨rfl, by simp, by simp⟩ ?_
  rintro fr G ⟨rfl, f2, f8⟩
  simp [f2, f8, jc, finish, zN, set_self hk]
 | [x], hso =>
  cases hso
  refine zo (fun fr G => G = H ∧ fr 2 = .p (.int .i64 1) ∧ fr 8 = .p (.int .i64 1)) (fun _ _ => 0) ⟨rfl, by simp, by simp⟩ ?_
  rintro fr G ⟨rfl, f2, f8⟩
  simp [f2, f8, jc, finish, zN, set_self hk]
 | [x, y], hso =>
  have hkl := (List.getElem?_eq_some_iff.1 hk).1
  simp only [y4] at hso
  cases hx : vI x with
  | none => rw [hx] at hso; cases hso
  | some f =>
  rw [hx] at hso
  simp only at hso
  cases hy : vI y with
  | none => rw [hy] at hso; cases hso
  | some g =>
  rw [hy] at hso
  simp only at hso
  have hcall : sTb2K [y, x] H = some (.p (.int .i64 (sQ g f)), H) := by simp only [sTb2K, sTb2, hx, hy]
  have hlc := less_cmp g f
  obtain ⟨rv, r1, r2, r3, r4, r5, r6, rfl, c7, c1, c2, c3, c4, c5, c6⟩ := vS hx
  obtain ⟨sv, s1, s2, s3, s4, s5, s6, rfl, d7, d1, d2, d3, d4, d5, d6⟩ := vS hy
  have c0 : (AVal.p (.str f)).isCell = true := rfl
  have c8 := (ui (nm := .str f) c7 []).2
  have d0 : (AVal.p (.str g)).isCell = true := rfl
  have d8 := (ui (nm := .str g) d7 []).2
  have mx := dZ (nm := .str f) c7 [r1, r2, r3, r4, r5, r6]
  have my := dZ (nm := .str g) d7 [s1, s2, s3, s4, s5, s6]
  refine zo (fun fr G => fr 0 = .own k 0 2 ev ∧ fr 1 = .p (.int .i64 0) ∧ fr 2 = .p (.int .i64 2) ∧ fr 3 = .p (.clo 33 []) ∧ ((G = H ∧ fr 8 = .p (.int .i64 1)) ∨ (G = H.set k ⟨8, ev, false, l, et⟩ ∧ fr 8 = .p (.int .i64 2)))) (fun fr _ => 2 - zA (fr 8)) ⟨by simp, by simp, by simp, by simp, .inl ⟨rfl, by simp⟩⟩ ?_
  rintro fr G ⟨f0, f1, f2, f3, ⟨rfl, f8⟩ | ⟨rfl, f8⟩⟩
  ·simp [f2, f8]
   simp only [lf91_B0, zr]
   cases hb : Op.bytesLess g f with
   | false =>
    rw [hb] at hso hlc
    cases hso
    rw [set_self hk]
    have hlc' : ¬ sQ g f < 0 := by simpa using hlc
    refine zo (fun fr' G' => G' = G ∧ fr' 0 = .own k 0 2 ev ∧ fr' 1 = .p (.int .i64 0) ∧ fr' 2 = .p (.int .i64 2) ∧ fr' 3 = .p (.clo 33 []) ∧ fr' 8 = .p (.int .i64 1) ∧ fr' 9 = .p (.int .i64 1)) (fun _ _ => 0) ⟨rfl, by simp [f0], by simp [f1], by simp [f2], by simp [f3], by simp [f8], by simp⟩ ?_
    rintro fr' G' ⟨rfl, g0, g1, g2, g3, g8, g9⟩
    simp [g0, g1, g2, g3, g8, g9, w00, w02, hk, hcall, hlc', mx, my, Tins_mu, zA, -getElem?_pos, List.getElem?_cons_zero, List.getElem?_cons_succ]
   | true =>
    rw [hb] at hso hlc
    cases hso
    have hlc' : sQ g f < 0 := by simpa using hlc
    refine zo (fun fr' G' => fr' 0 = .own k 0 2 ev ∧ fr' 1 = .p (.int .i64 0) ∧ fr' 2 = .p (.int .i64 2) ∧ fr' 3 = .p (.clo 33 []) ∧ fr' 8 = .p (.int .i64 1) ∧ ((G' = G ∧ fr' 9 = .p (.int .i64 1)) ∨ (G' = G.set k ⟨8, ev, false, [.agg [.p (.str g), sv, s1, s2, s3, s4, s5, s6], .agg [.p (.str f), rv, r1, r2, r3, r4, r5, r6]], et⟩ ∧ fr' 9 = .p (.int .i64 0)))) (fun fr' _ => zA (fr' 9)) ⟨by simp [f0], by simp [f1], by simp [f2], by simp [f3], by simp [f8], .inl ⟨rfl, by simp⟩⟩ ?_
    rintro fr' G' ⟨g0, g1, g2, g3, g8, ⟨rfl, g9⟩ | ⟨rfl, g9⟩⟩
    ·simp [g0, g1, g3, g9, w00, hk, hcall, hlc', mx, my, Tins_mu, zA, -AVal.isCell, -getElem?_pos, List.getElem?_cons_zero, List.getElem?_cons_succ]
     rw [zw]
     refine ⟨[], ?_⟩
     simp [g0, g1, g2, g3, g8, g9, w00, hk, hkl, mx, my, -AVal.isCell, c0, c1, c2, c3, c4, c5, c6, c8, d0, d1, d2, d3, d4, d5, d6, d8, -getElem?_pos, List.getElem?_cons_zero, List.getElem?_cons_succ]
    ·simp [g0, g1, g2, g3, g8, g9, w02, zA]
  ·simp [f2, f8, jc, finish, zN]
def sPdq : List AVal → zb → Option (AVal × zb)
 | [.own k 0 n v, .p (.int .i64 0), .p (.int .i64 m), .p (.int .i64 _), .p (.clo 33 [])], H => if m ≤ 12 then xr [.own k 0 n v, .p (.int .i64 0), .p (.int .i64 m), .p (.clo 33 [])] H else none
 | [.tight [], .p (.int .i64 0), .p (.int .i64 0), .p (.int .i64 _), .p (.clo 33 [])], H => some (.p (.tup []), H)
 | _, _ => none
def Tpdq : Tab := Tab.none.own 91 xr
theorem Tpdq_ok : TabOk Tryz.prog base Tpdq := Tab.own_ok Tab.none_ok ins_ok
def sInsK := xr
theorem Tpdq_mu (a : List AVal) (H : zb) : Tpdq.mu 91 a H = sInsK a H := rfl
theorem sIns_tup {a : List AVal} {H H' : zb} {r : AVal} (h : xr a H = some (r, H')) : r = .p (.tup []) := by
 unfold xr at h
 split at h
 ·split at h
  ·split at h
   ·split at h
    ·cases h; rfl
    ·cases h
   ·cases h
  ·cases h
 ·cases h; rfl
 ·cases h
theorem pdq_ok : yO Tryz.prog base 56 sPdq := by
 refine gX zE Tpdq_ok ze low56 fun args H r H' hs hf => ?_
 have key : ∃ x m lim, args = [x, .p (.int .i64 0), .p (.int .i64 m), .p (.int .i64 lim), .p (.clo 33 [])] ∧ 0 ≤ m ∧ m ≤ 12 ∧ sInsK [x, .p (.int .i64 0), .p (.int .i64 m), .p (.clo 33 [])] H = some (r, H') := by
  unfold sPdq at hs
  split at hs
  ·rename_i k n v m lim
   split at hs
   case isFalse => cases hs
   rename_i hm
   refine ⟨_, m, lim, rfl, ?_, hm, hs⟩
   simp only [xr] at hs
   split at hs
   ·split at hs
    ·rename_i hc; omega
    ·cases hs
   ·cases hs
  ·rename_i lim
   exact ⟨_, 0, lim, rfl, by omega, by omega, hs⟩
  ·cases hs
 obtain ⟨x, m, lim, rfl, hm0, hm, hins⟩ := key
 have hr := sIns_tup hins
 subst hr
 refine ⟨by simp [lf56], ?_⟩
 have hw : IntKind.i64.wrap m = m := IntWalk.i64_in _ (by omega)
 simp [lf56]
 simp only [lf56_B0, zr]
 refine zo (fun fr G => G = H ∧ fr 0 = x ∧ fr 1 = .p (.int .i64 0) ∧ fr 2 = .p (.int .i64 m) ∧ fr 4 = .p (.clo 33 [])) (fun _ _ => 0) ⟨rfl, by simp, by simp, by simp, by simp⟩ ?_
 rintro fr G ⟨rfl, f0, f1, f2, f4⟩
 simp [f0, f1, f2, f4, hw, hm, hins, Tpdq_mu, jc, finish, zN]
def pO : List PVal → Option PVal
 | [.int .u64 x] => if 0 ≤ x ∧ x < 3 then some (.int .i64 x) else none
 | _ => none
def TlenB : Tab := Tab.none.with 100 (za kR)
theorem TlenB_ok : TabOk Tryz.prog base TlenB := Tab.with_ok Tab.none_ok gb
theorem TlenB_mu (f : FuncId) (a : List AVal) (H : zb) : TlenB.mu f a H = none := (rfl)
theorem TlenB_fns : TlenB.fn 100 = (za kR) := (rfl)
theorem lenB_ok : zH Tryz.prog base 57 (za pO) := by
 refine zd zE TlenB_ok ze low57 fun args z hs hf => ?_
 unfold pO at hs
 split at hs
 case h_2 => cases hs
 rename_i x
 split at hs
 case isFalse => cases hs
 rename_i hc
 cases hs
 refine ⟨by simp [lf57], ?_⟩
 have h3 : x = 0 ∨ x = 1 ∨ x = 2 := by omega
 have e : kR [.int .u64 x] = some (.int .i64 x) := by
  rcases h3 with rfl | rfl | rfl <;> rfl
 simp [lf57, e, TlenB_mu, TlenB_fns]
def ot : List AVal → zb → Option (AVal × zb)
 | [.own k 0 n v, .p (.clo 33 [])], H => match H[k]? with
  | some e => if e.ver = v ∧ e.size = 8 ∧ e.froz = false ∧ n = e.elems.length then
    (match y4 e.elems with
    | some l => some (.p (.tup []), H.set k ⟨e.size, e.ver, e.froz, l, e.ty⟩)
    | none => none)
   else none
  | none => none
 | [.tight [], .p (.clo 33 [])], H => some (.p (.tup []), H)
 | _, _ => none
def sPdqK := sPdq
def Tsrt : Tab := (Tab.none.with 57 (za pO)).own 56 sPdq
theorem Tsrt_ok : TabOk Tryz.prog base Tsrt := Tab.own_ok (Tab.with_ok Tab.none_ok lenB_ok) pdq_ok
theorem Tsrt_mu (a : List AVal) (H : zb) : Tsrt.mu 56 a H = sPdqK a H := rfl
theorem aJ (a : List AVal) (H : zb) : Tsrt.mu 57 a H = none := rfl
theorem Tsrt_fn : Tsrt.fn 57 = za pO := rfl
theorem sortA_len {l m : List AVal} (h : y4 l = some m) : l.length ≤ 2 ∧ m.length = l.length := by
 unfold y4 at h
 split at h
 ·cases h; exact ⟨by simp, rfl⟩
 ·cases h; exact ⟨by simp, rfl⟩
 ·split at h
  ·split at h
   ·split at h <;> (cases h; exact ⟨by simp, rfl⟩)
   ·cases h
  ·cases h
 ·cases h
theorem srt_ok : yO Tryz.prog base 32 ot := by
 refine gX zE Tsrt_ok ze low32 fun args H r H' hs hf => ?_
 unfold ot at hs
 split at hs
 case h_3 => cases hs
 case h_2 =>
  cases hs
  refine ⟨by simp [lf32], ?_⟩
  have hw : IntKind.u64.wrap 0 = 0 := by decide
  have hcall : sPdqK [.tight [], .p (.int .i64 0), .p (.int .i64 0), .p (.int .i64 0), .p (.clo 33 [])] H = some (.p (.tup []), H) := rfl
  simp [lf32, hw, hcall, pO, Tsrt_mu, aJ, Tsrt_fn, jc, finish, zN]
 rename_i k n v
 cases hk : H[k]? with
 | none => rw [hk] at hs; cases hs
 | some e =>
 rw [hk] at hs
 simp only at hs
 split at hs
 case isFalse => cases hs
 rename_i hc
 obtain ⟨es, ev, ef, ee, et⟩ := e
 obtain ⟨h1, h2, h3, h4⟩ := hc
 simp only at h1 h2 h3 h4 hs
 subst h1 h2 h3 h4
 cases hso : y4 ee with
 | none => rw [hso] at hs; cases hs
 | some l =>
 rw [hso] at hs
 cases hs
 have hle := sortA_len hso
 refine ⟨by simp [lf32], ?_⟩
 have hw : IntKind.u64.wrap (ee.length : Int) = ee.length := by
  have h3 : ee.length = 0 ∨ ee.length = 1 ∨ ee.length = 2 := by omega
  rcases h3 with h | h | h <;> (rw [h]; decide)
 have hcall : sPdqK [.own k 0 ee.length ev, .p (.int .i64 0), .p (.int .i64 ee.length), .p (.int .i64 ee.length), .p (.clo 33 [])] H = some (.p (.tup []), H.set k ⟨8, ev, false, l, et⟩) := by
  simp only [sPdqK, sPdq]
  rw [if_pos (by omega)]
  simp only [xr, hk, true_and, hso, if_true]
 have hL : pO [.int .u64 ee.length] = some (.int .i64 ee.length) := by
  simp only [pO]
  rw [if_pos (by omega)]
 simp [lf32, hk, hw, hcall, hL, Tsrt_mu, aJ, Tsrt_fn, jc, finish, zN]
theorem fZ (m : Nat) (sz v : Nat) (fz : Bool) (L : List PVal) (t : TypeId) : qX m ⟨sz, v, fz, L.map AVal.p, t⟩ = ⟨sz, v, fz, L.map AVal.p, t⟩ := by
 simp [qX, Function.comp_def]
def uz (v : Va) : Bool := v.x.small
def oV (l : List Va) : Option PVal := if l ≠ [] ∧ l.length ≤ 1000000 ∧ l.all uz = true then some (.lst (l.map Va.enc)) else none
def Tows : Tab := (Tab.none.with 101 (vp 6 35 iy)).with 61 (za (sp1 cVa xE))
theorem Tows_ok : TabOk Tryz.prog base Tows := Tab.with_ok (Tab.with_ok Tab.none_ok lU) mown_ok
theorem Tows_mu (f : FuncId) (a : List AVal) (H : zb) : Tows.mu f a H = none := (rfl)
theorem aO : Tows.fn 101 = (vp 6 35 iy) ∧ Tows.fn 61 = (za (sp1 cVa xE)) := ⟨rfl, rfl⟩
theorem owns_ok : zH Tryz.prog base 60 (za (sp1 cVa.lst oV)) := by
 refine zd zE Tows_ok ze low60 fun args z hs hf => ?_
 obtain ⟨l, wl, rfl, hz⟩ := uK hs
 unfold oV at hz
 split at hz
 case isFalse => cases hz
 rename_i hc
 obtain ⟨hne, hlen, hall⟩ := hc
 cases hz
 refine ⟨by simp [lf60], ?_⟩
 have hen : cVa.lst.enc l = .lst (l.map Va.enc) := rfl
 have hcl : vp 6 35 iy [.lst (l.map Va.enc)] = some (.own 0 0 l.length 0, [⟨6, 0, false, (l.map Va.enc).map .p, 35⟩]) := by
  have h1 : iy [.lst (l.map Va.enc)] = some (l.map Va.enc) := by
   have h2 : ju cVa.dec (l.map Va.enc) = some l := cVa.deL l wl
   simp only [iy, h2]
   cases l with
   | nil => exact absurd rfl hne
   | cons a r =>
    simp only [List.length_cons] at hlen ⊢
    rw [if_pos (by omega)]
  simp only [vp, h1, List.length_map]
 rw [hen]
 simp [lf60, hcl, fZ, Tows_mu, aO, -List.map_map]
 simp only [lf60_B0, zr]
 refine zo (fun fr G => G = [⟨6, 0, false, (l.map Va.enc).map .p, 35⟩] ∧ ∃ j : Nat, j ≤ l.length ∧ fr 3 = .own 0 0 l.length 0 ∧ fr 8 = .p (.int .i64 l.length) ∧ fr 9 = .p (.int .i64 j)) (fun fr _ => l.length - zA (fr 9)) ⟨rfl, 0, by omega, by simp, by simp, by simp⟩ ?_
 rintro fr G ⟨rfl, j, hj, f3, f8, f9⟩
 by_cases h : j < l.length
 ·obtain ⟨x, hx⟩ : ∃ x, l[j]? = some x := ⟨_, List.getElem?_eq_getElem h⟩
  have hnx := z3 hx
  have hw := zs (i := j) (by omega)
  have hxm := List.mem_of_getElem? hx
  have hsm : x.x.small = true := List.all_eq_true.1 hall x hxm
  have ho : sp1 cVa xE [x.enc] = some x.enc := (cF (A := cVa) (x := x) (wl x hxm)).trans (if_pos hsm)
  have hset : ((l.map Va.enc).map AVal.p).set j (.p x.enc) = (l.map Va.enc).map .p := by
   apply set_self
   simp [hx]
  have hget : ((l.map Va.enc).map AVal.p)[j]? = some (.p x.enc) := by simp [hx]
  have hlv : ((l.map Va.enc).map AVal.p).length = l.length := by simp
  obtain ⟨vs, hvs⟩ : ∃ t, t = (l.map Va.enc).map AVal.p := ⟨_, rfl⟩
  rw [← hvs] at hset hget hlv ⊢
  have hxe : x.enc = .agg [.int .i64 x.k, .bool x.b, .bool x.x.s, .lst (x.x.n.map u64), .lst (x.x.d.map u64), .int .i64 x.el] := rfl
  rw [hxe] at ho hset hget
  simp [f3, f8, f9, h, hw, hget, hset, ho, zA, Tows_mu, aO, -getElem?_pos, List.getElem?_cons_zero]
  exact ⟨⟨j + 1, by omega, rfl⟩, by omega⟩
 ·have hil : j = l.length := by omega
  subst hil
  have hLl : (l.map Va.enc).length = l.length := by simp
  obtain ⟨L, hL⟩ : ∃ t, t = l.map Va.enc := ⟨_, rfl⟩
  rw [← hL] at hLl ⊢
  rw [← hLl]
  simp [f3, f8, f9, ← hLl, wM, List.take_of_length_le]
def rowOk (r : Rw) : Bool := decide (r.ag ≠ []) && decide (r.ag.length ≤ 1000000) && r.ag.all uz && uz r.v
def eZ (t : Tb) : Option PVal := if t.rows ≠ [] ∧ t.rows.length ≤ 1000000 ∧ t.rows.all rowOk = true ∧ uz t.els = true then some (cTb.enc t) else none
def Tcp24 : Tab := ((Tab.none.with 59 (vp 7 58 iz)).with 60 (za (sp1 cVa.lst oV))).with 61 (za (sp1 cVa xE))
theorem Tcp24_ok : TabOk Tryz.prog base Tcp24 := Tab.with_ok (Tab.with_ok (Tab.with_ok Tab.none_ok lV) owns_ok) mown_ok
theorem sC (f : FuncId) (a : List AVal) (H : zb) : Tcp24.mu f a H = none := (rfl)
theorem mC : Tcp24.fn 59 = (vp 7 58 iz) ∧ Tcp24.fn 60 = (za (sp1 cVa.lst oV)) ∧ Tcp24.fn 61 = (za (sp1 cVa xE)) := ⟨rfl, rfl, rfl⟩
theorem copy_ok : zH Tryz.prog base 35 (za (sp1 cTb eZ)) := by
 refine zd zE Tcp24_ok ze low35 fun args z hs hf => ?_
 obtain ⟨t, wt, rfl, hz⟩ := uK hs
 unfold eZ at hz
 split at hz
 case isFalse => cases hz
 rename_i hc
 obtain ⟨hne, hlen, hall, hels⟩ := hc
 cases hz
 obtain ⟨f, rows, els⟩ := t
 simp only at hne hlen hall hels
 obtain ⟨wr, we⟩ := wt
 simp only at wr we
 refine ⟨by simp [lf35], ?_⟩
 have hen : cTb.enc ⟨f, rows, els⟩ = .agg [.str f, .lst (rows.map cRw.enc), .int .i64 els.k, .bool els.b, .bool els.x.s, .lst (els.x.n.map u64), .lst (els.x.d.map u64), .int .i64 els.el] := rfl
 have hcl : vp 7 58 iz [.lst (rows.map cRw.enc)] = some (.own 0 0 rows.length 0, [⟨7, 0, false, (rows.map cRw.enc).map .p, 58⟩]) := by
  have h1 : iz [.lst (rows.map cRw.enc)] = some (rows.map cRw.enc) := by
   have h2 : ju cRw.dec (rows.map cRw.enc) = some rows := cRw.deL rows wr
   simp only [iz, h2]
   cases rows with
   | nil => exact absurd rfl hne
   | cons a r =>
    simp only [List.length_cons] at hlen ⊢
    rw [if_pos (by omega)]
  simp only [vp, h1, List.length_map]
 have hels' : sp1 cVa xE [els.enc] = some els.enc := (cF (A := cVa) (x := els) we).trans (if_pos hels)
 have hele : els.enc = .agg [.int .i64 els.k, .bool els.b, .bool els.x.s, .lst (els.x.n.map u64), .lst (els.x.d.map u64), .int .i64 els.el] := rfl
 rw [hele] at hels'
 rw [hen]
 obtain ⟨EN, hEN⟩ : ∃ t, t = els.x.n.map u64 := ⟨_, rfl⟩
 obtain ⟨ED, hED⟩ : ∃ t, t = els.x.d.map u64 := ⟨_, rfl⟩
 rw [← hEN, ← hED] at hels' ⊢
 simp [lf35, hcl, fZ, sC, mC, -List.map_map]
 simp only [lf35_B0, zr]
 have hlR : ((rows.map cRw.enc).map AVal.p).length = rows.length := by simp
 have hgR : ∀ j x, rows[j]? = some x → ((rows.map cRw.enc).map AVal.p)[j]? = some (AVal.p (cRw.enc x)) := fun j x h => by rw [List.getElem?_map, List.getElem?_map, h]; rfl
 have hresR : ∀ (H : zb) (n : Nat), zN (zj H n) ((rows.map cRw.enc).map AVal.p) = some (rows.map cRw.enc) := fun H n => wM H n _
 obtain ⟨LR, hLR⟩ : ∃ t, t = rows.map cRw.enc := ⟨_, rfl⟩
 rw [← hLR] at hlR hgR hresR ⊢
 obtain ⟨VR, hVR⟩ : ∃ t, t = LR.map AVal.p := ⟨_, rfl⟩
 rw [← hVR] at hlR hgR hresR ⊢
 obtain ⟨ea, hea⟩ : ∃ t : Ent, t = ⟨8, 0, false, [.p (.agg [.str f, .lst LR, .int .i64 els.k, .bool els.b, .bool els.x.s, .lst EN, .lst ED, .int .i64 els.el])], 54⟩ := ⟨_, rfl⟩
 obtain ⟨eb, heb⟩ : ∃ t : Ent, t = ⟨8, 0, false, [.agg [.p (.str []), .tight [], .p (.int .i64 0), .p (.bool false), .p (.bool false), .tight [], .tight [], .p (.int .i64 0)]], 54⟩ := ⟨_, rfl⟩
 rw [← hea, ← heb]
 refine zo (fun fr G => ∃ Z, G = [ea, eb, ⟨7, 0, false, VR, 58⟩] ++ Z ∧ ∃ j : Nat, j ≤ rows.length ∧ fr 1 = .optr 0 0 0 0 ∧ fr 2 = .optr 1 0 0 0 ∧ fr 3 = .own 2 0 rows.length 0 ∧ fr 9 = .own 2 0 rows.length 0 ∧ fr 10 = .p (.int .i64 rows.length) ∧ fr 11 = .p (.int .i64 j)) (fun fr _ => rows.length - zA (fr 11)) ⟨[], rfl, 0, by omega, by simp, by simp, by simp, by simp, by simp, by simp⟩ ?_
 rintro fr G ⟨Z, hG, j, hj, f1, f2, f3, f9, f10, f11⟩
 by_cases h : j < rows.length
 ·obtain ⟨x, hx⟩ : ∃ x, rows[j]? = some x := ⟨_, List.getElem?_eq_getElem h⟩
  have hw := zs (i := j) (by omega)
  have hxm := List.mem_of_getElem? hx
  have hrk := List.all_eq_true.1 hall x hxm
  simp only [rowOk, Bool.and_eq_true, decide_eq_true_eq] at hrk
  obtain ⟨⟨⟨hr1, hr2⟩, hr3⟩, hr4⟩ := hrk
  have ho : sp1 cVa xE [x.v.enc] = some x.v.enc := (cF (A := cVa) (x := x.v) (wr x hxm).2).trans (if_pos hr4)
  have hos : sp1 cVa.lst oV [cVa.lst.enc x.ag] = some (.lst (x.ag.map Va.enc)) := (cF (A := cVa.lst) (x := x.ag) (wr x hxm).1).trans (if_pos ⟨hr1, hr2, hr3⟩)
  have hen' : cVa.lst.enc x.ag = .lst (x.ag.map Va.enc) := rfl
  have hxe : cRw.enc x = .agg [.lst (x.ag.map Va.enc), .int .i64 x.v.k, .bool x.v.b, .bool x.v.x.s, .lst (x.v.x.n.map u64), .lst (x.v.x.d.map u64), .int .i64 x.v.el] := rfl
  have hve : x.v.enc = .agg [.int .i64 x.v.k, .bool x.v.b, .bool x.v.x.s, .lst (x.v.x.n.map u64), .lst (x.v.x.d.map u64), .int .i64 x.v.el] := rfl
  have hget := hgR j x hx
  have hset := set_self hget
  rw [hxe] at hget hset
  rw [hve] at ho
  rw [hen'] at hos
  obtain ⟨XA, hXA⟩ : ∃ t, t = x.ag.map Va.enc := ⟨_, rfl⟩
  obtain ⟨XN, hXN⟩ : ∃ t, t = x.v.x.n.map u64 := ⟨_, rfl⟩
  obtain ⟨XD, hXD⟩ : ∃ t, t = x.v.x.d.map u64 := ⟨_, rfl⟩
  rw [← hXA, ← hXN, ← hXD] at hget hset
  rw [← hXN, ← hXD] at ho
  rw [← hXA] at hos
  have hA : ∀ Y, (G ++ Y)[2]? = some ⟨7, 0, false, VR, 58⟩ := fun Y => by rw [hG]; rfl
  have hA' : G[2]? = some ⟨7, 0, false, VR, 58⟩ := by rw [hG]; rfl
  have hS : ∀ Y, (G ++ Y).set 2 ⟨7, 0, false, VR, 58⟩ = G ++ Y := fun Y => set_self (hA Y)
  simp [f9, f10, f11, h, hA', hget, z5, zA, -getElem?_pos, List.getElem?_cons_zero]
  rw [zw]
  refine ⟨[], ?_⟩
  simp [f1, f2, f3, f9, f10, f11, h, hw, hA, hget, hset, hS, ho, hos, z5, sC, mC, -getElem?_pos, List.getElem?_cons_zero]
  exact ⟨⟨⟨Z ++ _, by rw [hG]; rfl⟩, j + 1, by omega, rfl⟩, by omega⟩
 ·have hil : j = rows.length := by omega
  subst hil
  simp [f10, f11]
  rw [zw]
  refine ⟨[], ?_⟩
  rw [hG, hea, heb]
  simp [f1, f2, f3, hels', hresR, List.take_of_length_le, hlR, sC, mC, -getElem?_pos, List.getElem?_cons_zero, List.getElem?_cons_succ]
end Go.Proofs.YtgbjjikaenlkmaaGreat

namespace Go.Proofs.YtgbjjikaenlkmaaGreat
open Go Go.Abs Go.Limbs
variable {base : Prot}
set_option maxRecDepth 20000
def flat0 : PVal → Bool
 | .bool _ => true
 | .int _ _ => true
 | .lst [] => true
 | _ => false
def flatP : PVal → Bool
 | .tup l => l.all flat0
 | x => flat0 x
theorem tY {pr pr' : Prot} {x : PVal} {v : Value} (h : flat0 x = true) (r : PRep pr x v) : PRep pr' x v := by
 cases r with
 | bool b => exact .bool b
 | int k n => exact .int k n
 | lst es a len cap size blk off vals hl hc hm ha hs hp hr hk =>
  cases es with
  | nil => exact .lst [] a len cap size blk off vals hl hc hm ha hs (fun i j hi _ => absurd hi (by simp)) (fun i e j x h1 _ => by simp at h1) hk
  | cons y r => cases h
 | flt | cpx | str | nilp | cptr | clo | nilf | nili | agg | tup => cases h
theorem flatP_any {pr pr' : Prot} {x : PVal} {v : Value} (h : flatP x = true) (r : PRep pr x v) : PRep pr' x v := by
 cases r with
 | tup l vs hl hr =>
  refine .tup l vs hl fun j x v h1 h2 => tY ?_ (hr j x v h1 h2)
  exact List.all_eq_true.1 h x (List.mem_of_getElem? h1)
 | bool b => exact .bool b
 | int k n => exact .int k n
 | lst es a len cap size blk off vals hl hc hm ha hs hp hr hk => exact tY (x := .lst es) h (.lst es a len cap size blk off vals hl hc hm ha hs hp hr hk)
 | flt | cpx | str | nilp | cptr | clo | nilf | nili | agg => cases h
theorem Inv.keep {c : Ctx} {H : zb} {w w' : World} (hI : Inv base c H w) (hs : w.heap.size ≤ w'.heap.size) (hb : ∀ b, b < w.heap.size → w'.heap[b]? = w.heap[b]?) : Inv base c H w' where
 base := hI.base
 len := hI.len
 prot := fun b o v h => by
  have h1 := hI.prot b o v h
  have hlt : b < w.heap.size := by
   rcases Nat.lt_or_ge b w.heap.size with h2 | h2
   ·exact h2
   ·have h3 : w.heap[b]? = none := by simp [h2]
    simp [World.cell?, h3] at h1
  have h4 : w'.cell? ⟨b, o, none⟩ = w.cell? ⟨b, o, none⟩ := World.cell?_of_block (a := ⟨b, o, none⟩) (hb b hlt)
  rw [h4, h1]
 ent := fun k e l h1 h2 => by
  have hE := hI.ent k e l h1 h2
  have hlt : ∀ g cap, l.place = some (g, cap) → w'.heap[g]? = w.heap[g]? := fun g cap hp => by
   apply hb
   cases hm : l.mp with
   | true =>
    obtain ⟨es, ck, h3, -⟩ := hE.mapped g cap hp hm
    exact (Array.getElem?_eq_some_iff.1 h3).1
   | false =>
    obtain ⟨cur, ty, h3, -⟩ := hE.there g cap hp hm
    exact (Array.getElem?_eq_some_iff.1 h3).1
  refine ⟨hE.ver, hE.size, hE.pos, hE.cells, hE.nowhere, fun g cap cur ty fr hp h => ?_, fun g cap hp hm => ?_, fun g cap hp hm => ?_⟩
  ·rw [hlt g cap hp] at h
   exact hE.typed g cap cur ty fr hp h
  ·have := hE.mapped g cap hp hm
   unfold MapIn at this ⊢
   rw [hlt g cap hp]
   exact this
  ·rw [hlt g cap hp]
   exact hE.there g cap hp hm
 inj := hI.inj
def flatM (F : List AVal → zb → List Nat) (s : List PVal → Option PVal) (args : List AVal) (H : zb) : Option (AVal × zb) :=
 match zN (zj H fuel) args with
 | some ps => match s ps with
  | some x => if flatP x = true then some (.p x, freezeL H (F args H)) else none
  | none => none
 | none => none
theorem flat_mu {P : Program} {f : FuncId} {s : List PVal → Option PVal} (F : List AVal → zb → List Nat) (h : zH P base f (za s)) : yO P base f (flatM F s) := by
 refine ⟨h.1, fun args H r H' hm c w vs hI hr => ?_⟩
 unfold flatM at hm
 cases hps : zN (zj H fuel) args with
 | none => rw [hps] at hm; cases hm
 | some ps =>
 rw [hps] at hm
 simp only at hm
 cases hx : s ps with
 | none => rw [hx] at hm; cases hm
 | some x =>
 rw [hx] at hm
 simp only at hm
 split at hm
 case isFalse => cases hm
 rename_i hfl
 cases hm
 obtain ⟨c1, e1, s1, i1, p1⟩ := hI.freezeL (args.flatMap (zh H fuel))
 have same := jl (args.flatMap (zh H fuel)) H
 have hpr : ∀ (j : Nat) p v, ps[j]? = some p → vs[j]? = some v → PRep c1.prot p v := by
  intro j p v hj hv
  obtain ⟨y, a, b⟩ := wN hps j p hj
  rw [jn same] at b
  refine kS i1 fuel y v p ((hr.2 j y v a hv).step s1) b (fun k hk => ?_)
  rw [← kH same] at hk
  exact (p1 k (List.mem_flatMap.2 ⟨y, List.mem_of_getElem? a, hk⟩)).step rfl (fun _ _ _ h => h) (fun e he => j4 _ H k e he)
   (fun e l g cap a b d o ho => hI.cell_at a (by rw [← e1]; exact b) d o ho)
 have hlen : vs.length = ps.length := by rw [(q7 hps).1]; exact hr.1
 have i0 : Inv base ⟨[], c1.prot⟩ [] w := ⟨i1.base, rfl, i1.prot, fun k e l h => by simp at h, fun k k' l l' g cp cp' h => by simp at h⟩
 have hs : za s ps = some (.p x, []) := by unfold za; rw [hx]
 refine (h.2 ps (.p x) [] hs ⟨[], c1.prot⟩ w vs i0 (PRep.toRep hlen hpr)).mono fun e w' ⟨v, c0', he, st, hi, hrep⟩ => ?_
 have hb : ∀ b, b < w.heap.size → w'.heap[b]? = w.heap[b]? := fun b hb => st.blk b hb (by rintro ⟨k, l, cap, h1, -⟩; simp at h1)
 have iK := Inv.keep hI st.size hb
 have s0 : Step c w c w' := ⟨fun _ _ _ h => h, fun _ l h => ⟨l, h, Nat.le_refl _, fun _ => rfl⟩, st.os, st.tape, st.output, st.size, fun b hlt _ => hb b hlt, fun _ h => .inl h, fun _ _ _ h => .inl h⟩
 obtain ⟨c2, e2, s2, i2, -⟩ := iK.freezeL (F args H)
 have hv : PRep c.prot x v := by
  cases hrep with
  | p _ _ hp => exact flatP_any hfl hp
 exact ⟨v, c2, he, s0.trans s2, i2, (Rep.p x v hv).step s2⟩
def Trun : Tab := (((((((((Tab.none.with 10 (za (sp2 cMd.lst cGv.lst dz))).with 24 mO).with 20 mN).with 30 (za (sp1 cI zerP))).with 35 (za (sp1 cTb eZ))).own 27 dP).own 28 sIxT).own 31 sRow).own 32 ot)
theorem Trun_ok : TabOk Tryz.prog base Trun := Tab.own_ok (Tab.own_ok (Tab.own_ok (Tab.own_ok (Tab.with_ok (Tab.with_ok (Tab.with_ok (Tab.with_ok (Tab.with_ok Tab.none_ok aS) zap) zao) mzero_ok) copy_ok) zal) ixT_ok) urow_ok) srt_ok
def sTbsK (args : List PVal) : Option PVal := K.runPK Trun 5 lf12 args
theorem fR : zH Tryz.prog base 12 (za sTbsK) := K.pure_of_runK zE Trun_ok ze low12 5 fun _ _ h => h
def othersF (args : List AVal) (H : zb) : List Nat := match args with
 | [_, g] => (List.range H.length).filter fun k => !(zh H fuel g).contains k
 | _ => []
def Taw24 : Tab := (((((((Tab.none.with 19 (za cN)).with 9 (za (sp3 cVr.lst cMd cMd lB))).with 12 (za sTbsK)).with 18 (za (sp2 cI cVa.lst freeP))).with 17 (za (sp3 cPr.lst cI cI wayP))).own 12 (flatM (fun _ _ => []) sTbsK)).own 10 (flatM othersF (sp2 cMd.lst cGv.lst dz)))
theorem Taw24_ok : TabOk Tryz.prog base Taw24 := Tab.own_ok (Tab.own_ok (Tab.with_ok (Tab.with_ok (Tab.with_ok (Tab.with_ok (Tab.with_ok Tab.none_ok rofR_ok) lemma_ok) fR) free_ok) merge_ok) (flat_mu _ fR)) (flat_mu _ aS)
theorem aw24_run : eqO (K.runPK Taw24 5 lf6 []) (some (.bool true)) = true := by kernel_rfl
theorem l8 : zH Tryz.prog base 6 (za oC) := by
 refine K.pure_of_runK zE Taw24_ok ze low6 5 fun args x hs => ?_
 unfold oC at hs
 split at hs
 case h_2 => cases hs
 cases hs
 exact eqO_ok aw24_run
end Go.Proofs.YtgbjjikaenlkmaaGreat

namespace Go.Proofs.YtgbjjikaenlkmaaGreat
open Go Go.Abs Go.Limbs
variable {base : Prot}
set_option maxRecDepth 20000
attribute [local irreducible] vc
attribute [local simp] za zh freezeL fuel zk u64 au
theorem rem_mod {k n : Int} (hn : 0 < n) : Int.tmod (Int.tmod k n + n) n = k % n := by
 have h1 := Int.tmod_lt_of_pos k hn
 have h2 : -n < Int.tmod k n := by
  rw [Int.tmod_eq_emod]
  have := Int.emod_nonneg k (show n ≠ 0 by omega)
  have := Int.emod_lt_of_pos k hn
  split <;> omega
 rw [Int.tmod_eq_emod_of_nonneg (by omega), Int.add_emod_right]
 rw [Int.tmod_eq_emod]
 split
 ·simp
 ·rw [Int.natAbs_of_nonneg (by omega), Int.sub_emod_right, Int.emod_emod_of_dvd _ (Int.dvd_refl n)]
def dQ : List PVal → Option PVal
 | [.int .i64 k, .int .i64 n] => if 0 < n ∧ n ≤ 1000000 then some (.int .i64 (k % n)) else none
 | _ => none
theorem pJ {k n : Int} (h : 0 < n) (h' : n ≤ 1000000) : dQ [.int .i64 k, .int .i64 n] = some (.int .i64 (k % n)) := if_pos ⟨h, h'⟩
theorem roundN_ok : zH Tryz.prog base 7 (za dQ) := by
 refine zd zE Tab.none_ok ze low7 fun args z hs hf => ?_
 unfold dQ at hs
 split at hs
 case h_2 => cases hs
 rename_i k n
 split at hs
 case isFalse => cases hs
 rename_i h
 cases hs
 refine ⟨by simp [lf7], ?_⟩
 have h0 : (n == 0) = false := by simp; omega
 have h0' : n ≠ 0 := by omega
 have e1 : IntKind.i64.wrap (Int.tmod k n + n) = Int.tmod k n + n := by
  have h1 := Int.tmod_lt_of_pos k h.1
  have h2 : -n < Int.tmod k n := by
   have := Int.emod_nonneg k h0'
   have := Int.emod_lt_of_pos k h.1
   rw [Int.tmod_eq_emod]
   split <;> omega
  exact IntWalk.i64_in _ (by omega)
 have e2 := rem_mod (k := k) h.1
 simp [lf7, h0', e1, e2]
theorem keepZ (G Z : zb) : (∀ k, k < G.length → (G ++ Z)[k]? = G[k]?) = True := eq_true fun _ hk => List.getElem?_append_left hk
def iL (l : List Int) : List PVal := l.map fun n => PVal.int .i64 n
theorem xP (l : List Int) : (iL l).length = l.length := List.length_map ..
def kY (nm : List UInt8) : List Tb → Option Tb
 | [] => none
 | t :: r => if t.f = nm then some t else kY nm r
def tj : List PVal → Option PVal
 | [.agg [.lst vs], .str nm] => match ju cTb.dec vs with
  | some ts => (match kY nm ts with | some t => some (.tup [cTb.enc t, .bool true]) | none => none)
  | none => none
 | _ => none
theorem dt (nm : List UInt8) : ∀ (ts : List Tb) (i : Nat), (∀ t ∈ ts.take i, t.f ≠ nm) → kY nm ts = kY nm (ts.drop i)
 | ts, 0, _ => rfl
 | [], i + 1, _ => rfl
 | t :: r, i + 1, h => by
  have h1 : t.f ≠ nm := h t (by simp)
  have h2 := dt nm r i (fun x hx => h x (by simp [hx]))
  simp [kY, h1, h2]
theorem ut (t : Tb) : cTb.enc t = .agg [.str t.f, .lst (t.rows.map cRw.enc), .int .i64 t.els.k, .bool t.els.b, .bool t.els.x.s, .lst (t.els.x.n.map u64), .lst (t.els.x.d.map u64), .int .i64 t.els.el] := rfl
theorem rfind_ok : zH Tryz.prog base 14 (za tj) := by
 refine zd zE Tab.none_ok ze low14 fun args z hs hf => ?_
 unfold tj at hs
 split at hs
 case h_2 => cases hs
 rename_i vs nm
 cases hd : ju cTb.dec vs with
 | none => rw [hd] at hs; cases hs
 | some ts =>
 rw [hd] at hs
 simp only at hs
 cases hfi : kY nm ts with
 | none => rw [hfi] at hs; cases hs
 | some t =>
 rw [hfi] at hs
 cases hs
 obtain ⟨rfl, wt⟩ := cTb.edL _ _ hd
 have hlen : ts.length ≤ maxLen := by
  have h1 := hf (.agg [.lst (ts.map cTb.enc)]) (by simp)
  have h2 := h1.agg (.lst (ts.map cTb.enc)) (by simp)
  simpa using h2.lst.1
 unfold maxLen at hlen
 refine ⟨by simp [lf14], ?_⟩
 simp [lf14]
 simp only [lf14_B0, zr]
 refine zo (fun fr G => ∃ i : Nat, i ≤ ts.length ∧ (∃ e0, e0.elems = [.p (.agg [.lst (ts.map cTb.enc)])] ∧ e0.ver = 0 ∧ G = [e0, ⟨8, 0, false, [.agg [.p (.str []), .tight [], .p (.int .i64 0), .p (.bool false), .p (.bool false), .tight [], .tight [], .p (.int .i64 0)]], 54⟩]) ∧ fr 1 = .p (.str nm) ∧ fr 2 = .optr 0 0 0 0 ∧ fr 4 = .optr 1 0 0 0 ∧ fr 6 = .p (.int .i64 i) ∧ ∀ t ∈ ts.take i, t.f ≠ nm) (fun fr _ => ts.length - zA (fr 6)) ⟨0, by omega, by simp, by simp, by simp, by simp, by simp, by simp⟩ ?_
 rintro fr G ⟨i, hi, ⟨⟨es, ev, ef, ee, et⟩, he1, he2, rfl⟩, f1, f2, f4, f6, hno⟩
 simp only at he1 he2
 subst he1 he2
 by_cases h : i < ts.length
 ·obtain ⟨g, hg⟩ : ∃ g, ts[i]? = some g := ⟨_, List.getElem?_eq_getElem h⟩
  have hng := z3 hg
  have hw := zs (i := i) (by omega)
  have hdr : ts.drop i = g :: ts.drop (i + 1) := by rw [List.drop_eq_getElem_cons h, hng]
  have heg := ut g
  have hb1 : yU .eql g.f nm = some (.bool (g.f == nm)) := rfl
  by_cases he : g.f = nm
  ·have hb : (g.f == nm) = true := by simpa using he
   have hl : kY nm ts = some g := by rw [dt nm ts i hno, hdr]; simp [kY, he]
   rw [hl] at hfi
   cases hfi
   rw [heg]
   rw [hb] at hb1
   simp [f1, f2, f4, f6, h, hng, heg, hb1]
  ·have hb : (g.f == nm) = false := by simpa using he
   rw [hb] at hb1
   simp [f1, f2, f4, f6, h, hng, heg, hb1, hw, zA]
   refine ⟨⟨i + 1, by omega, rfl, fun x hx => ?_⟩, by omega⟩
   rw [List.take_add_one, hg] at hx
   simp at hx
   rcases hx with hx | rfl
   ·exact hno x hx
   ·exact he
 ·have hil : i = ts.length := by omega
  subst hil
  have hl : kY nm ts = none := by rw [dt nm ts _ hno, List.drop_of_length_le (Nat.le_refl _)]; rfl
  rw [hl] at hfi
  cases hfi
def uE (a : Va) : List Rw → Va → Va
 | [], e => e
 | r :: t, e => if qf r.ag [a] = true then r.v else uE a t e
def one1 (r : Rw) : Bool := decide (r.ag.length = 1)
def sApp : List PVal → Option PVal
 | [t, .lst [v]] => match cTb.dec t with
  | some tb => (match cVa.dec v with
   | some a => if tb.rows.all one1 = true then some (uE a tb.rows tb.els).enc else none
   | none => none)
  | none => none
 | _ => none
theorem bK {a : Va} {e : Va} : ∀ (rs : List Rw) (i : Nat), (∀ r ∈ rs.take i, qf r.ag [a] = false) → uE a rs e = uE a (rs.drop i) e
 | rs, 0, _ => rfl
 | [], i + 1, _ => rfl
 | t :: r, i + 1, h => by
  have h1 := h t (by simp)
  have h2 := bK (e := e) r i (fun x hx => h x (by simp [hx]))
  simp [uE, h1, h2]
def Tapl : Tab := Tab.none.with 13 (za (sp2 cVa cVa qA))
theorem Tapl_ok : TabOk Tryz.prog base Tapl := Tab.with_ok Tab.none_ok tn
theorem Tapl_mu (f : FuncId) (a : List AVal) (H : zb) : Tapl.mu f a H = none := (rfl)
theorem Tapl_fns : Tapl.fn 13 = (za (sp2 cVa cVa qA)) := (rfl)
theorem rapply_ok : zH Tryz.prog base 15 (za sApp) := by
 refine zd zE Tapl_ok ze low15 fun args z hs hf => ?_
 unfold sApp at hs
 split at hs
 case h_2 => cases hs
 rename_i tv v
 cases ht : cTb.dec tv with
 | none => rw [ht] at hs; cases hs
 | some tb =>
 rw [ht] at hs
 simp only at hs
 cases hv : cVa.dec v with
 | none => rw [hv] at hs; cases hs
 | some a =>
 rw [hv] at hs
 simp only at hs
 split at hs
 case isFalse => cases hs
 rename_i hall
 cases hs
 obtain ⟨rfl, wt⟩ := cTb.ed _ _ ht
 obtain ⟨rfl, wa⟩ := cVa.ed _ _ hv
 obtain ⟨tf, rows, els⟩ := tb
 simp only at hall wt
 have hte := ut ⟨tf, rows, els⟩
 simp only at hte
 have hlen : rows.length ≤ maxLen := by
  have h1 := hf (cTb.enc ⟨tf, rows, els⟩) (by simp)
  rw [hte] at h1
  have h2 := h1.agg (.lst (rows.map cRw.enc)) (by simp)
  simpa using h2.lst.1
 unfold maxLen at hlen
 refine ⟨by simp [lf15], ?_⟩
 rw [hte]
 have hae : cVa.enc a = a.enc := rfl
 rw [hae]
 obtain ⟨EN, hEN⟩ : ∃ t, t = els.x.n.map u64 := ⟨_, rfl⟩
 obtain ⟨ED, hED⟩ : ∃ t, t = els.x.d.map u64 := ⟨_, rfl⟩
 obtain ⟨LR, hLR⟩ : ∃ t, t = rows.map cRw.enc := ⟨_, rfl⟩
 have hlR : LR.length = rows.length := by rw [hLR]; simp
 have hgR : ∀ j x, rows[j]? = some x → LR[j]? = some (cRw.enc x) := fun j x h => by rw [hLR, List.getElem?_map, h]; rfl
 rw [← hEN, ← hED, ← hLR]
 simp [lf15]
 simp only [lf15_B1, zr]
 obtain ⟨E0, hE0⟩ : ∃ t : Ent, t = ⟨8, 0, false, [.p (.agg [.str tf, .lst LR, .int .i64 els.k, .bool els.b, .bool els.x.s, .lst EN, .lst ED, .int .i64 els.el])], 54⟩ := ⟨_, rfl⟩
 obtain ⟨E1, hE1⟩ : ∃ t : Ent, t = ⟨6, 0, false, [.agg [.p (.int .i64 0), .p (.bool false), .p (.bool false), .tight [], .tight [], .p (.int .i64 0)]], 35⟩ := ⟨_, rfl⟩
 refine zo (fun fr G => ∃ i : Nat, i ≤ rows.length ∧ G[0]? = some E0 ∧ G[1]? = some E1 ∧ fr 1 = .p (.lst [a.enc]) ∧ fr 2 = .optr 0 0 0 0 ∧ fr 4 = .optr 1 0 0 0 ∧ fr 5 = .p (.int .i64 i) ∧ ∀ r ∈ rows.take i, qf r.ag [a] = false) (fun fr _ => rows.length - zA (fr 5)) ⟨0, by omega, by simp [hE0], by simp [hE1], by simp, by simp, by simp, by simp, by simp⟩ ?_
 rintro fr G ⟨i, hi, g0, g1, f1, f2, f4, f5, hno⟩
 have hl0 := (List.getElem?_eq_some_iff.1 g0).1
 have hl1 := (List.getElem?_eq_some_iff.1 g1).1
 have hA0 : ∀ Y, (G ++ Y)[0]? = some E0 := fun Y => by rw [List.getElem?_append_left hl0]; exact g0
 have hA1 : ∀ Y, (G ++ Y)[1]? = some E1 := fun Y => by rw [List.getElem?_append_left hl1]; exact g1
 by_cases h : i < rows.length
 ·obtain ⟨r, hr⟩ : ∃ r, rows[i]? = some r := ⟨_, List.getElem?_eq_getElem h⟩
  have hrm := List.mem_of_getElem? hr
  have h1 := List.all_eq_true.1 hall r hrm
  simp only [one1, decide_eq_true_eq] at h1
  obtain ⟨x, hx⟩ := List.length_eq_one_iff.1 h1
  have hw := zs (i := i) (by omega)
  have hw1 : IntKind.i64.wrap 1 = 1 := IntWalk.i64_in _ (by omega)
  have hdr : rows.drop i = r :: rows.drop (i + 1) := by rw [List.drop_eq_getElem_cons h, z3 hr]
  have hre : cRw.enc r = .agg [.lst [x.enc], .int .i64 r.v.k, .bool r.v.b, .bool r.v.x.s, .lst (r.v.x.n.map u64), .lst (r.v.x.d.map u64), .int .i64 r.v.el] := by
   simp only [cRw, hx]
   rfl
  have hg := hgR i r hr
  rw [hre] at hg
  have hwr := (wt.1 r hrm).1
  rw [hx] at hwr
  have hS : sp2 cVa cVa qA [x.enc, a.enc] = some (.bool (jm x a)) := jD (A := cVa) (B := cVa) (g := qA) (x := x) (y := a) (hwr x (by simp)) wa
  have hse : qf r.ag [a] = jm x a := by rw [hx]; simp [qf]
  have hxe : x.enc = .agg [.int .i64 x.k, .bool x.b, .bool x.x.s, .lst (x.x.n.map u64), .lst (x.x.d.map u64), .int .i64 x.el] := rfl
  rw [hxe] at hg hS
  have hs1 : ∀ Y e, ((G ++ Y).set 1 e)[1]? = some e := fun Y e => List.getElem?_set_self (by rw [List.length_append]; omega)
  have hae' : a.enc = .agg [.int .i64 a.k, .bool a.b, .bool a.x.s, .lst (a.x.n.map u64), .lst (a.x.d.map u64), .int .i64 a.el] := rfl
  rw [hae'] at hS f1
  simp [f1, f2, f5, h, g0, hE0, hlR, hg, z5, -getElem?_pos, List.getElem?_cons_zero]
  simp only [lf15_B0, zr]
  obtain ⟨XN, hXN⟩ : ∃ t, t = x.x.n.map u64 := ⟨_, rfl⟩
  obtain ⟨XD, hXD⟩ : ∃ t, t = x.x.d.map u64 := ⟨_, rfl⟩
  obtain ⟨AN, hAN⟩ : ∃ t, t = a.x.n.map u64 := ⟨_, rfl⟩
  obtain ⟨AD, hAD⟩ : ∃ t, t = a.x.d.map u64 := ⟨_, rfl⟩
  obtain ⟨VN, hVN⟩ : ∃ t, t = r.v.x.n.map u64 := ⟨_, rfl⟩
  obtain ⟨VD, hVD⟩ : ∃ t, t = r.v.x.d.map u64 := ⟨_, rfl⟩
  rw [← hXN, ← hXD, ← hAN, ← hAD] at hS
  rw [← hAN, ← hAD] at f1
  rw [← hXN, ← hXD, ← hAN, ← hAD, ← hVN, ← hVD]
  obtain ⟨E6, hE6⟩ : ∃ t : Ent, t = ⟨7, 0, false, [.p (.agg [.lst [.agg [.int .i64 x.k, .bool x.b, .bool x.x.s, .lst XN, .lst XD, .int .i64 x.el]], .int .i64 r.v.k, .bool r.v.b, .bool r.v.x.s, .lst VN, .lst VD, .int .i64 r.v.el])], 58⟩ := ⟨_, rfl⟩
  rw [← hE6]
  refine zo (fun fr' G' => G' = G ++ [E6] ∧ fr' 1 = .p (.lst [.agg [.int .i64 a.k, .bool a.b, .bool a.x.s, .lst AN, .lst AD, .int .i64 a.el]]) ∧ fr' 2 = .optr 0 0 0 0 ∧ fr' 4 = .optr 1 0 0 0 ∧ fr' 5 = .p (.int .i64 i) ∧ fr' 6 = .optr G.length 0 0 0 ∧ ((fr' 8 = .p (.int .i64 0) ∧ fr' 7 = .p (.bool true)) ∨ (fr' 8 = .p (.int .i64 1) ∧ fr' 7 = .p (.bool (jm x a))))) (fun fr' _ => 1 - zA (fr' 8)) ⟨rfl, by simp [f1], by simp [f2], by simp [f4], by simp [f5], by simp, .inl ⟨by simp, by simp⟩⟩ ?_
  rintro fr' G' ⟨rfl, k1, k2, k4, k5, k6, ⟨k8, k7⟩ | ⟨k8, k7⟩⟩
  ·simp [k1, k2, k4, k5, k6, k7, k8, hE6, hS, hw1, zA, Tapl_mu, Tapl_fns, z5, -getElem?_pos, List.getElem?_cons_zero]
  ·have hve : r.v.enc = .agg [.int .i64 r.v.k, .bool r.v.b, .bool r.v.x.s, .lst VN, .lst VD, .int .i64 r.v.el] := by rw [hVN, hVD]; rfl
   cases hs : jm x a with
   | true =>
    rw [hs] at k7 hse
    have hl : uE a rows els = r.v := by rw [bK rows i hno, hdr]; simp [uE, hse]
    rw [hl, hve]
    simp [k1, k4, k6, k7, k8, hE6, hA1, hE1, hs1, z5, -getElem?_pos, List.getElem?_cons_zero]
   | false =>
    rw [hs] at k7 hse
    simp [k1, k2, k4, k5, k7, k8, hw, hA0, hA1, hE0, hE1, zA, -getElem?_pos]
    refine ⟨⟨i + 1, by omega, by rw [hae', hAN, hAD], rfl, fun y hy => ?_⟩, by omega⟩
    rw [List.take_add_one, hr] at hy
    simp at hy
    rcases hy with hy | rfl
    ·exact hno y hy
    ·exact hse
 ·have hil : i = rows.length := by omega
  subst hil
  have hl : uE a rows els = els := by rw [bK rows _ hno, List.drop_of_length_le (Nat.le_refl _)]; rfl
  rw [hl]
  have hee : els.enc = .agg [.int .i64 els.k, .bool els.b, .bool els.x.s, .lst EN, .lst ED, .int .i64 els.el] := by rw [hEN, hED]; rfl
  rw [hee]
  have hs1 : ∀ e, (G.set 1 e)[1]? = some e := fun e => List.getElem?_set_self hl1
  simp [f2, f4, f5, g0, g1, hE0, hE1, hlR, hs1, -getElem?_pos, List.getElem?_cons_zero]
def tbA (p : Tb × AVal) : AVal := .agg [.p (.str p.1.f), p.2, .p (.int .i64 p.1.els.k), .p (.bool p.1.els.b), .p (.bool p.1.els.x.s), .p (.lst (p.1.els.x.n.map u64)), .p (.lst (p.1.els.x.d.map u64)), .p (.int .i64 p.1.els.el)]
def sN (f : List UInt8) : List (Tb × AVal) → Nat → Int
 | [], _ => -1
 | p :: r, i => if p.1.f = f then i else sN f r (i + 1)
theorem idxN_eq {f : List UInt8} : ∀ {L : List (Tb × AVal)} {i : Nat}, (∀ p ∈ L, rL p.2 = true) → lD f (L.map tbA) i = some (sN f L i)
 | [], _, _ => rfl
 | p :: r, i, h => by
  have h1 := h p (by simp)
  have h2 := idxN_eq (f := f) (L := r) (i := i + 1) fun q hq => h q (by simp [hq])
  have h3 : vI (tbA p) = some p.1.f := by
   unfold tbA vI
   simp [h1]
  simp only [List.map_cons, lD, sN, h3, h2]
  by_cases he : p.1.f = f
  ·simp [he]
  ·have : (p.1.f == f) = false := by simpa using he
   simp [he, this]
def jZ (w : Nat) (fz : Bool) (rows : List Rw) : Ent := ⟨7, w, fz, (rows.map cRw.enc).map .p, 58⟩
def kr (w : Nat) (L : List (Tb × AVal)) : Ent := ⟨8, w, false, L.map tbA, 54⟩
def RowsIn (G : zb) (rv : AVal) (rows : List Rw) : Prop := (rv = .tight [] ∧ rows = []) ∨ ∃ k w, rv = .own k 0 rows.length w ∧ G[k]? = some (jZ w false rows)
def to : AVal → Option Nat
 | .own k _ _ _ => some k
 | _ => none
structure TabsIn (G : zb) (v : AVal) (L : List (Tb × AVal)) : Prop where
 rows : ∀ p ∈ L, RowsIn G p.2 p.1.rows
 wf : ∀ p ∈ L, cRw.wfL p.1.rows ∧ p.1.els.x.wf
 apart : ∀ (i j : Nat) p q k, i ≠ j → L[i]? = some p → L[j]? = some q → to p.2 = some k → to q.2 ≠ some k
 out : (L = [] ∧ v = .tight []) ∨ ∃ q w, v = .own q 0 L.length w ∧ G[q]? = some (kr w L)
theorem RowsIn.ref {G : zb} {rv : AVal} {rows : List Rw} (h : RowsIn G rv rows) : rL rv = true := by
 rcases h with ⟨rfl, -⟩ | ⟨k, w, rfl, -⟩ <;> rfl
theorem RowsIn.more {G : zb} {rv : AVal} {rows : List Rw} (h : RowsIn G rv rows) (Z : zb) : RowsIn (G ++ Z) rv rows := by
 rcases h with h | ⟨k, w, h1, h2⟩
 ·exact .inl h
 ·exact .inr ⟨k, w, h1, by rw [List.getElem?_append_left (List.getElem?_eq_some_iff.1 h2).1]; exact h2⟩
theorem TabsIn.more {G : zb} {v : AVal} {L : List (Tb × AVal)} (h : TabsIn G v L) (Z : zb) : TabsIn (G ++ Z) v L := by
 refine ⟨fun p hp => (h.rows p hp).more Z, h.wf, h.apart, ?_⟩
 rcases h.out with h | ⟨q, w, h1, h2⟩
 ·exact .inl h
 ·exact .inr ⟨q, w, h1, by rw [List.getElem?_append_left (List.getElem?_eq_some_iff.1 h2).1]; exact h2⟩
def ik := dP
def sIxTT := sIxT
def sRowT := sRow
def s8 := ot
theorem jv (a : List AVal) (H : zb) : Trun.mu 27 a H = ik a H ∧ Trun.mu 28 a H = sIxTT a H ∧ Trun.mu 31 a H = sRowT a H ∧ Trun.mu 32 a H = s8 a H ∧ Trun.mu 10 a H = none ∧ Trun.mu 24 a H = none ∧ Trun.mu 20 a H = none ∧ Trun.mu 30 a H = none ∧ Trun.mu 35 a H = none := ⟨rfl, rfl, rfl, rfl, rfl, rfl, rfl, rfl, rfl⟩
theorem gH : Trun.fn 10 = (za (sp2 cMd.lst cGv.lst dz)) ∧ Trun.fn 24 = mO ∧ Trun.fn 20 = mN ∧ Trun.fn 30 = (za (sp1 cI zerP)) ∧ Trun.fn 35 = (za (sp1 cTb eZ)) := ⟨rfl, rfl, rfl, rfl, rfl⟩
def u0 : LCode := match lf12_B0 with | .block _ (.loop (.seq _ (.seq _ (.seq (.block _ b) _)))) => b | _ => .skip
def cr : LCode := match u0 with | .seq _ (.seq _ (.seq _ r)) => r | _ => .skip
theorem bodyT_eq : u0 = .seq (match u0 with | .seq c _ => c | _ => .skip) (.seq (match u0 with | .seq _ (.seq c _) => c | _ => .skip) (.seq (match u0 with | .seq _ (.seq _ (.seq c _)) => c | _ => .skip) cr)) := rfl
theorem tbl_first {Q : LExit → AFr → zb → Prop} {fr : AFr} {G : zb} {es : List AVal} {ms : List Md} {i : Nat} {x : Md} {y : Int} {v a : Va}
  (hx : ms[i]? = some x) (hag : x.ag = [y]) (hl : kp es [x.id, y] = some [v, a]) (g0 : G[0]? = some ⟨0, 0, false, es, 0⟩)
  (f11 : fr 11 = .omap 0 0) (f33 : fr 33 = .p (.lst (ms.map cMd.enc))) (f35 : fr 35 = .p (.int .i64 i))
  (hQ : ∀ fr' Z, (∀ k, k < 15 → fr' k = fr k) → (fr' 33 = fr 33 ∧ fr' 34 = fr 34 ∧ fr' 35 = fr 35) → fr' 15 = .optr G.length 0 0 0 → fr' 16 = .p (.lst [v.enc, a.enc]) →
   vc Trun cr Q fr' (G ++ (⟨3, 0, false, [.p (cMd.enc x)], 26⟩ :: Z))) : vc Trun u0 Q fr G := by
 have hi := (List.getElem?_eq_some_iff.1 hx).1
 have hxe : cMd.enc x = .agg [.int .i64 x.id, .str x.f, .lst [.int .i64 y]] := by simp only [cMd, hag]; rfl
 have h0l := (List.getElem?_eq_some_iff.1 g0).1
 have hA0 : ∀ Z, (G ++ Z)[0]? = some ⟨0, 0, false, es, 0⟩ := fun Z => by rw [List.getElem?_append_left h0l]; exact g0
 obtain ⟨MS, hMS⟩ : ∃ t, t = ms.map cMd.enc := ⟨_, rfl⟩
 have hgm : MS[i]? = some (cMd.enc x) := by rw [hMS, List.getElem?_map, hx]; rfl
 have hml : MS.length = ms.length := by rw [hMS]; simp
 rw [hxe] at hgm
 rw [← hMS] at f33
 have hw2 : (IntKind.i64.wrap 2) = 2 := IntWalk.i64_in _ (by omega)
 have hmx : maxLen = 9223372036854775807 := rfl
 have hb1 : 2 ≤ maxLen := by omega
 have hcall : ∀ (e : Ent), ik [.omap 0 0, .own (G.length + 1) 0 2 1] (G ++ [e, ⟨1, 1, false, [.p (.int .i64 x.id), .p (.int .i64 y)], 3⟩]) = some (.p (.tup [.lst [v.enc, a.enc], .bool true]), G ++ [e, ⟨1, 1, false, [.p (.int .i64 x.id), .p (.int .i64 y)], 3⟩]) := fun e => by
  simp [ik, dP, hA0, jM, m7, hl, -getElem?_pos, List.getElem?_cons_zero, List.getElem?_cons_succ]
 rw [bodyT_eq]
 simp only [u0, lf12_B0]
 simp [f11, f33, f35, hgm, hcall, hb1, zO, jv, jM, z5, -getElem?_pos, List.getElem?_cons_zero, List.getElem?_cons_succ]
 rw [← hxe]
 refine hQ _ _ (fun k hk => ?_) ⟨rfl, rfl, rfl⟩ rfl rfl
 simp only [upd]
 repeat rw [if_neg (by omega)]
theorem sIxT_at {G : zb} {v : AVal} {L : List (Tb × AVal)} {c : Nat} {x : Md} {y : Int} (hT : TabsIn G v L) (hag : x.ag = [y]) (hlen : L.length ≤ 1000) (hc : G[c]? = some ⟨3, 0, false, [.p (cMd.enc x)], 26⟩) :
  sIxTT [v, .clo 29 [.optr c 0 0 0]] G = some (.p (.int .i64 (sN x.f L 0)), G) := by
 have hxe : cMd.enc x = .agg [.int .i64 x.id, .str x.f, .lst [.int .i64 y]] := by simp only [cMd, hag]; rfl
 have hm : mW G c 0 = some x.f := by simp [mW, hc, hxe]
 have hix := idxN_eq (f := x.f) (L := L) (i := 0) fun p hp => (hT.rows p hp).ref
 rcases hT.out with ⟨rfl, rfl⟩ | ⟨q, w, rfl, hq⟩
 ·rfl
 ·simp [sIxTT, sIxT, hq, kr, hm, hix]
  omega
theorem jJ {G : zb} {k q : Nat} {e e' : Ent} (h : G[k]? = some e) (h' : G[q]? = some e') (hs : e.size ≠ e'.size) : q ≠ k := fun he => by
 subst he
 rw [h] at h'
 cases h'
 exact hs rfl
theorem gd {G Z : zb} {q : Nat} {e' n : Ent} (hq : G[q]? = some e') (k : Nat) (e : Ent) (he : G[k]? = some e) (hs : e.size ≠ e'.size) : ((G ++ Z).set q n)[k]? = some e := by
 rw [List.getElem?_set_ne (jJ he hq hs), List.getElem?_append_left (List.getElem?_eq_some_iff.1 he).1]
 exact he
theorem RowsIn.set {G : zb} {rv : AVal} {rows : List Rw} {q : Nat} {e' : Ent} (h : RowsIn G rv rows) (hq : G[q]? = some e') (hs : e'.size ≠ 7) (Z : zb) (n : Ent) : RowsIn ((G ++ Z).set q n) rv rows := by
 rcases h with h | ⟨k, w, h1, h2⟩
 ·exact .inl h
 ·exact .inr ⟨k, w, h1, gd hq k _ h2 (fun he => hs he.symm)⟩
theorem TabsIn.add {G : zb} {L : List (Tb × AVal)} {q w : Nat} {p : Tb × AVal} (hT : TabsIn G (.own q 0 L.length w) L) (hq : G[q]? = some (kr w L)) (Z : zb) (h1 : p.2 = .tight []) (h2 : p.1.rows = []) (h3 : p.1.els.x.wf) :
  TabsIn ((G ++ Z).set q (kr (w + 1) (L ++ [p]))) (.own q 0 (L.length + 1) (w + 1)) (L ++ [p]) := by
 have hql := (List.getElem?_eq_some_iff.1 hq).1
 refine ⟨fun x hx => ?_, fun x hx => ?_, fun i j x y k hij hi hj hr => ?_, .inr ⟨q, w + 1, by simp, List.getElem?_set_self (by rw [List.length_append]; omega)⟩⟩
 ·rcases List.mem_append.1 hx with hx | hx
  ·exact (hT.rows x hx).set hq (by simp [kr]) Z _
  ·cases List.mem_singleton.1 hx
   exact .inl ⟨h1, h2⟩
 ·rcases List.mem_append.1 hx with hx | hx
  ·exact hT.wf x hx
  ·cases List.mem_singleton.1 hx
   exact ⟨(by rw [h2]; intro r hr; cases hr), h3⟩
 ·rcases Nat.lt_or_ge i L.length with h | h
  ·rcases Nat.lt_or_ge j L.length with h' | h'
   ·rw [List.getElem?_append_left h] at hi
    rw [List.getElem?_append_left h'] at hj
    exact hT.apart i j x y k hij hi hj hr
   ·rw [List.getElem?_append_right h'] at hj
    cases List.mem_singleton.1 (List.mem_of_getElem? hj)
    rw [h1]
    simp [to]
  ·rw [List.getElem?_append_right h] at hi
   cases List.mem_singleton.1 (List.mem_of_getElem? hi)
   rw [h1] at hr
   cases hr
def sW : LCode := match cr with | .seq _ (.seq _ r) => r | _ => .skip
def addT : LCode := match cr with | .seq _ (.seq c _) => c | _ => .skip
theorem restT_eq : cr = .seq (match cr with | .seq c _ => c | _ => .skip) (.seq addT sW) := rfl
theorem tbl_add {Q : LExit → AFr → zb → Prop} {fr : AFr} {G : zb} {so : List AVal} {x : Md} {y : Int} {z : Va} {L : List (Tb × AVal)} {c : Nat} {v : AVal}
  (hag : x.ag = [y]) (hlen : L.length ≤ 1000) (g1 : G[1]? = some ⟨0, 0, false, so, 0⟩) (hc : G[c]? = some ⟨3, 0, false, [.p (cMd.enc x)], 26⟩) (hso : qJ x.id so = some (.int .i64 1)) (hz : sp1 cI zerP [.int .i64 1] = some z.enc) (wz : z.x.wf)
  (f12 : fr 12 = .omap 1 0) (f13 : fr 13 = v) (f15 : fr 15 = .optr c 0 0 0) (hT : TabsIn G v L)
  (hno : ∀ p ∈ L, p.1.f ≠ x.f) (f18 : fr 18 = .p (.int .i64 (-1)))
  (hQ : ∀ fr' G' v', (∀ k, k < 13 → fr' k = fr k) → (fr' 16 = fr 16 ∧ fr' 33 = fr 33 ∧ fr' 34 = fr 34 ∧ fr' 35 = fr 35) → fr' 18 = .p (.int .i64 L.length) → fr' 13 = v' → TabsIn G' v' (L ++ [(⟨x.f, [], z⟩, .tight [])]) → (∀ (k : Nat) (e : Ent), G[k]? = some e → e.size = 0 → G'[k]? = some e) →
   Q .normal fr' G') : vc Trun addT Q fr G := by
 have hxe : cMd.enc x = .agg [.int .i64 x.id, .str x.f, .lst [.int .i64 y]] := by simp only [cMd, hag]; rfl
 have hcl := (List.getElem?_eq_some_iff.1 hc).1
 have h1l := (List.getElem?_eq_some_iff.1 g1).1
 have hAc : ∀ Z, (G ++ Z)[c]? = some ⟨3, 0, false, [.p (cMd.enc x)], 26⟩ := fun Z => by rw [List.getElem?_append_left hcl]; exact hc
 have hA1 : ∀ Z, (G ++ Z)[1]? = some ⟨0, 0, false, so, 0⟩ := fun Z => by rw [List.getElem?_append_left h1l]; exact g1
 have hzc : z.enc = .agg [.int .i64 z.k, .bool z.b, .bool z.x.s, .lst (z.x.n.map u64), .lst (z.x.d.map u64), .int .i64 z.el] := rfl
 obtain ⟨ZN, hZN⟩ : ∃ t, t = z.x.n.map u64 := ⟨_, rfl⟩
 obtain ⟨ZD, hZD⟩ : ∃ t, t = z.x.d.map u64 := ⟨_, rfl⟩
 rw [← hZN, ← hZD] at hzc
 rw [hzc] at hz
 rw [hxe] at hc hAc
 have hmx : maxLen = 9223372036854775807 := rfl
 have hb1 : 1 ≤ maxLen := by omega
 simp only [addT, cr, u0, lf12_B0]
 rcases hT.out with ⟨rfl, rfl⟩ | ⟨q, w, rfl, hq⟩
 ·simp [f13, f18, -getElem?_pos]
  rw [zw]
  refine ⟨[], ?_⟩
  simp [f12, f13, f15, hc, g1, hso, hz, hcl, hb1, zO, qv, jv, gH, z5, -getElem?_pos, List.getElem?_cons_zero]
  refine hQ _ _ _ (fun k hk => ?_) ⟨rfl, rfl, rfl, rfl⟩ rfl rfl ⟨?_, ?_, ?_, .inr ⟨_, _, rfl, ?_⟩⟩ (fun k e he hs => ?_)
  ·simp only [upd]
   repeat rw [if_neg (by omega)]
  ·intro p hp
   cases List.mem_singleton.1 hp
   exact .inl ⟨rfl, rfl⟩
  ·intro p hp
   cases List.mem_singleton.1 hp
   exact ⟨(fun r hr => by cases hr), wz⟩
  ·intro i j p q k hij hi hj hr
   cases List.mem_singleton.1 (List.mem_of_getElem? hi)
   cases hr
  ·rw [jM]
   simp only [List.getElem?_cons_succ, List.getElem?_cons_zero, hZN, hZD]
   rfl
  ·rw [List.getElem?_append_left (List.getElem?_eq_some_iff.1 he).1]
   exact he
 ·have hql := (List.getElem?_eq_some_iff.1 hq).1
  have hAq : ∀ Z, (G ++ Z)[q]? = some (kr w L) := fun Z => by rw [List.getElem?_append_left hql]; exact hq
  have hq' : G[q]? = some ⟨8, w, false, L.map tbA, 54⟩ := hq
  obtain ⟨NT, hNT⟩ : ∃ t, t = AVal.agg [.p (.str x.f), .tight [], .p (.int .i64 z.k), .p (.bool z.b), .p (.bool z.x.s), .p (.lst ZN), .p (.lst ZD), .p (.int .i64 z.el)] := ⟨_, rfl⟩
  have hnt : NT = tbA (⟨x.f, [], z⟩, .tight []) := by rw [hNT, hZN, hZD]; rfl
  have a1 : qC 8 120 54 (.own q 0 L.length w) [NT] (G ++ [⟨8, 0, false, [NT], 54⟩]) = some (.own q 0 (L.length + 1) (w + 1), (G ++ [(⟨8, 0, false, [NT], 54⟩ : Ent)]).set q (kr (w + 1) (L ++ [(⟨x.f, [], z⟩, .tight [])]))) := by
   rw [u9 (size := 8) (ver := w) (n := L.length) (fz := false) (els := L.map tbA) (ty := 54) (hAq _) (by rw [hNT]; rfl) (by omega) (by simp) (by simp; omega) (by rw [hmx]; simp; omega)]
   rw [hnt]
   simp [kr]
  rw [hNT] at a1
  simp [f13, f18, hq', -getElem?_pos]
  rw [zw]
  refine ⟨[], ?_⟩
  simp [f12, f13, f15, hc, g1, hso, hz, hcl, a1, zO, qv, jv, gH, z5, -qC, -getElem?_pos, List.getElem?_cons_zero]
  refine hQ _ _ _ (fun k hk => ?_) ⟨rfl, rfl, rfl, rfl⟩ rfl rfl (hT.add hq _ rfl rfl wz) (fun k e he hs => gd hq k e he (by rw [hs]; simp [kr]))
  simp only [upd]
  repeat rw [if_neg (by omega)]
theorem RowsIn.lt {G : zb} {rv : AVal} {rows : List Rw} {k : Nat} (h : RowsIn G rv rows) (hk : to rv = some k) : k < G.length := by
 rcases h with ⟨rfl, -⟩ | ⟨j, w, rfl, h2⟩
 ·cases hk
 ·cases hk
  exact (List.getElem?_eq_some_iff.1 h2).1
theorem TabsIn.put {G G' : zb} {L : List (Tb × AVal)} {q w i : Nat} {p p' : Tb × AVal} (hT : TabsIn G (.own q 0 L.length w) L) (hp : L[i]? = some p) (hk : ∀ (j : Nat) x, j ≠ i → L[j]? = some x → RowsIn G' x.2 x.1.rows)
  (h1 : RowsIn G' p'.2 p'.1.rows) (h2 : cRw.wfL p'.1.rows ∧ p'.1.els.x.wf) (h3 : ∀ k, to p'.2 = some k → to p.2 = some k ∨ G.length ≤ k) (hq : G'[q]? = some (kr w (L.set i p'))) : TabsIn G' (.own q 0 L.length w) (L.set i p') := by
 have hil := (List.getElem?_eq_some_iff.1 hp).1
 refine ⟨fun x hx => ?_, fun x hx => ?_, fun a b x y k hab ha hb hr => ?_, .inr ⟨q, w, by simp, hq⟩⟩
 ·obtain ⟨j, hj⟩ := List.mem_iff_getElem?.1 hx
  by_cases he : j = i
  ·subst he
   rw [List.getElem?_set_self hil] at hj
   cases hj
   exact h1
  ·rw [List.getElem?_set_ne (fun h => he h.symm)] at hj
   exact hk j x he hj
 ·rcases List.mem_or_eq_of_mem_set hx with hx | rfl
  ·exact hT.wf x hx
  ·exact h2
 ·by_cases ea : a = i
  ·subst ea
   rw [List.getElem?_set_self hil] at ha
   cases ha
   rw [List.getElem?_set_ne hab] at hb
   rcases h3 k hr with h | h
   ·exact hT.apart a b p y k hab hp hb h
   ·intro hy
    have := (hT.rows y (List.mem_of_getElem? hb)).lt hy
    omega
  ·rw [List.getElem?_set_ne (fun h => ea h.symm)] at ha
   by_cases eb : b = i
   ·subst eb
    rw [List.getElem?_set_self hil] at hb
    cases hb
    intro hy
    rcases h3 k hy with h | h
    ·exact hT.apart b a p x k (fun h => ea h.symm) hp ha h hr
    ·have := (hT.rows x (List.mem_of_getElem? ha)).lt hr
     omega
   ·rw [List.getElem?_set_ne (fun h => eb h.symm)] at hb
    exact hT.apart a b x y k hab ha hb hr
theorem sRow_at {G : zb} {p : Tb × AVal} {a : Va} (h : RowsIn G p.2 p.1.rows) (wr : cRw.wfL p.1.rows) (wa : a.x.wf) (hlen : p.1.rows.length ≤ 1000) : sRowT [tbA p, .p (.lst [a.enc])] G = some (.p (.int .i64 (uT [a] p.1.rows 0)), G) := by
 have h1 : vI (tbA p) = some p.1.f := by
  unfold tbA vI
  simp [h.ref]
 have h2 : pZ G p.2 = some p.1.rows := by
  rcases h with ⟨e1, e2⟩ | ⟨k, w, e1, e2⟩
  ·rw [e1, e2]; rfl
  ·rw [e1]
   simp only [pZ, e2, jZ]
   rw [if_pos (by simp; omega)]
   exact rowsA_at wr
 have h3 : ju cVa.dec [a.enc] = some [a] := cVa.deL [a] (fun x hx => by cases List.mem_singleton.1 hx; exact wa)
 unfold sRowT sRow
 simp only [tbA] at h1 ⊢
 simp only [h1, h2, h3]
theorem tbl_row {Q : LExit → AFr → zb → Prop} {fr : AFr} {G : zb} {L : List (Tb × AVal)} {q w i : Nat} {p : Tb × AVal} {v a : Va}
  (hlen : L.length ≤ 1000) (hp : L[i]? = some p) (hr : p.1.rows.length ≤ 1000) (wa : a.x.wf) (wv : v.x.wf) (hq : G[q]? = some (kr w L)) (hT : TabsIn G (.own q 0 L.length w) L)
  (f13 : fr 13 = .own q 0 L.length w) (f16 : fr 16 = .p (.lst [v.enc, a.enc])) (f18 : fr 18 = .p (.int .i64 i))
  (hQ : ∀ fr' G' rv, (∀ k, k < 13 → fr' k = fr k) → (fr' 33 = fr 33 ∧ fr' 34 = fr 34 ∧ fr' 35 = fr 35) → fr' 13 = .own q 0 L.length w → TabsIn G' (.own q 0 L.length w) (if uT [a] p.1.rows 0 < 0 then L.set i (⟨p.1.f, p.1.rows ++ [⟨[a], v⟩], p.1.els⟩, rv) else L) → (∀ (k : Nat) (e : Ent), G[k]? = some e → e.size = 0 → G'[k]? = some e) →
   Q .normal fr' G') : vc Trun sW Q fr G := by
 have hpm := List.mem_of_getElem? hp
 have hil := (List.getElem?_eq_some_iff.1 hp).1
 have hrow := sRow_at (hT.rows p hpm) (hT.wf p hpm).1 wa hr
 have href := (hT.rows p hpm).ref
 have hget : (L.map tbA)[i]? = some (tbA p) := by rw [List.getElem?_map, hp]; rfl
 have htl : (L.map tbA).length = L.length := by simp
 have hq' : G[q]? = some ⟨8, w, false, L.map tbA, 54⟩ := hq
 have hma := dZ (nm := .str p.1.f) href [.p (.int .i64 p.1.els.k), .p (.bool p.1.els.b), .p (.bool p.1.els.x.s), .p (.lst (p.1.els.x.n.map u64)), .p (.lst (p.1.els.x.d.map u64)), .p (.int .i64 p.1.els.el)]
 obtain ⟨LA, hLA⟩ : ∃ t, t = L.map tbA := ⟨_, rfl⟩
 rw [← hLA] at hget htl hq'
 simp only [tbA] at hget hrow
 obtain ⟨EN, hEN⟩ : ∃ t, t = p.1.els.x.n.map u64 := ⟨_, rfl⟩
 obtain ⟨ED, hED⟩ : ∃ t, t = p.1.els.x.d.map u64 := ⟨_, rfl⟩
 rw [← hEN, ← hED] at hget hrow hma
 have c8 := (ui (nm := .str p.1.f) href []).2
 obtain ⟨VN, hVN⟩ : ∃ t, t = v.x.n.map u64 := ⟨_, rfl⟩
 obtain ⟨VD, hVD⟩ : ∃ t, t = v.x.d.map u64 := ⟨_, rfl⟩
 have hve : v.enc = .agg [.int .i64 v.k, .bool v.b, .bool v.x.s, .lst VN, .lst VD, .int .i64 v.el] := by rw [hVN, hVD]; rfl
 obtain ⟨AE, hAE⟩ : ∃ t, t = a.enc := ⟨_, rfl⟩
 have hsz : kM 6 [v.enc, AE] = true := by rw [hAE]; rfl
 rw [hve] at f16 hsz
 rw [← hAE] at f16 hrow
 have hmx : maxLen = 9223372036854775807 := rfl
 have hb1 : 1 ≤ maxLen := by omega
 have hql := (List.getElem?_eq_some_iff.1 hq').1
 have hA : ∀ Z, (G ++ Z)[q]? = some ⟨8, w, false, LA, 54⟩ := fun Z => by rw [List.getElem?_append_left (List.getElem?_eq_some_iff.1 hq').1]; exact hq'
 simp only [sW, cr, u0, lf12_B0]
 by_cases hlt : uT [a] p.1.rows 0 < 0
 ·rcases hT.rows p hpm with ⟨hp2, hrows⟩ | ⟨k, u, hp2, hk⟩
  ·rw [hp2] at hget hrow hma c8
   simp [f13, f16, f18, hq', hget, hil, hma, hrow, hsz, hlt, jv, -getElem?_pos]
   rw [zw]
   refine ⟨[], ?_⟩
   simp [f13, f16, f18, hq', hA, hget, hil, hsz, hb1, keepZ, zO, qv, z5, -getElem?_pos, List.getElem?_cons_zero]
   refine ⟨hql, hQ _ _ (.own (G.length + 1) 0 1 0) (fun k hk => ?_) ⟨rfl, rfl, rfl⟩ (by simp [f13]) ?_ (fun k e he hs => gd hq' k e he (by rw [hs]; simp))⟩
   ·simp only [upd]
    repeat rw [if_neg (by omega)]
   ·rw [if_pos hlt]
    have hql2 : q ≠ G.length + 1 := by omega
    refine hT.put hp (fun j x hj hx => (hT.rows x (List.mem_of_getElem? hx)).set hq' (by simp) _ _) (.inr ⟨G.length + 1, 0, ?_, ?_⟩) ?_ (fun k hk => ?_) ?_
    ·simp [hrows]
    ·rw [List.getElem?_set_ne hql2, jM, hrows]
     rw [hAE, hVN, hVD]
     rfl
    ·exact ⟨(by simp only [hrows]; intro r hr; cases List.mem_singleton.1 hr; exact ⟨(fun x hx => by cases List.mem_singleton.1 hx; exact wa), wv⟩), (hT.wf p hpm).2⟩
    ·cases hk
     exact .inr (by omega)
    ·rw [List.getElem?_set_self (by rw [List.length_append]; omega)]
     unfold kr
     rw [List.map_set, ← hLA]
     simp only [tbA, hEN, hED]
  ·rw [hp2] at hget hrow hma c8
   have hkl := (List.getElem?_eq_some_iff.1 hk).1
   have hkq : k ≠ q := fun h => jJ hq' hk (by simp [jZ]) h
   have hqk : q ≠ k := fun h => hkq h.symm
   obtain ⟨RV, hRV⟩ : ∃ t, t = AVal.p (.agg [.lst [AE], .int .i64 v.k, .bool v.b, .bool v.x.s, .lst VN, .lst VD, .int .i64 v.el]) := ⟨_, rfl⟩
   have hrv : RV = .p (cRw.enc ⟨[a], v⟩) := by rw [hRV, hAE, hVN, hVD]; rfl
   have hAk : ∀ Z, (G ++ Z)[k]? = some (jZ u false p.1.rows) := fun Z => by rw [List.getElem?_append_left hkl]; exact hk
   have a1 : qC 7 104 58 (.own k 0 p.1.rows.length u) [RV] (G ++ [⟨7, 0, false, [RV], 58⟩]) = some (.own k 0 (p.1.rows.length + 1) (u + 1), (G ++ [(⟨7, 0, false, [RV], 58⟩ : Ent)]).set k (jZ (u + 1) false (p.1.rows ++ [⟨[a], v⟩]))) := by
    rw [u9 (size := 7) (ver := u) (n := p.1.rows.length) (fz := false) (els := (p.1.rows.map cRw.enc).map .p) (ty := 58) (hAk _) (by rw [hRV]; rfl) (by omega) (by simp) (by simp; omega) (by rw [hmx]; simp; omega)]
    rw [hrv]
    simp [jZ]
   rw [hRV] at a1
   have hAq : ∀ Z e, ((G ++ Z).set k e)[q]? = some ⟨8, w, false, LA, 54⟩ := fun Z e => by rw [List.getElem?_set_ne hkq]; exact hA Z
   simp [f13, f16, f18, hq', hget, hil, hma, hrow, hsz, hlt, jv, -getElem?_pos]
   rw [zw]
   refine ⟨[], ?_⟩
   simp [f13, f16, f18, hq', hAq, hget, hil, hql, hsz, a1, keepZ, zO, qv, z5, -qC, -getElem?_pos, List.getElem?_cons_zero]
   refine hQ _ _ (.own k 0 (p.1.rows.length + 1) (u + 1)) (fun k hk => ?_) ⟨rfl, rfl, rfl⟩ (by simp [f13]) ?_ (fun k' e he hs => ?_)
   ·simp only [upd]
    repeat rw [if_neg (by omega)]
   ·rw [if_pos hlt]
    refine hT.put hp (fun j x hj hx => ?_) (.inr ⟨k, u + 1, ?_, ?_⟩) ?_ (fun k' hk' => ?_) ?_
    ·rcases hT.rows x (List.mem_of_getElem? hx) with h | ⟨k', u', h1, h2⟩
     ·exact .inl h
     ·have hkk : k ≠ k' := fun h => hT.apart i j p x k (fun h => hj h.symm) hp hx (by rw [hp2]; rfl) (by rw [h1, h]; rfl)
      have hqk' : q ≠ k' := fun h => jJ hq' h2 (by simp [jZ]) h.symm
      exact .inr ⟨k', u', h1, by rw [List.getElem?_set_ne hqk', List.getElem?_set_ne hkk, List.getElem?_append_left (List.getElem?_eq_some_iff.1 h2).1]; exact h2⟩
    ·simp
    ·rw [List.getElem?_set_ne hqk, List.getElem?_set_self (by rw [List.length_append]; omega)]
    ·refine ⟨fun r hr => ?_, (hT.wf p hpm).2⟩
     rcases List.mem_append.1 hr with hr | hr
     ·exact (hT.wf p hpm).1 r hr
     ·cases List.mem_singleton.1 hr
      exact ⟨(fun x hx => by cases List.mem_singleton.1 hx; exact wa), wv⟩
    ·rw [hp2]
     exact .inl hk'
    ·rw [List.getElem?_set_self (by rw [List.length_set, List.length_append]; omega)]
     unfold kr
     rw [List.map_set, ← hLA]
     simp only [tbA, hEN, hED]
   ·have h1 : k ≠ k' := fun h => jJ he hk (by rw [hs]; simp [jZ]) h
    have h2 : q ≠ k' := fun h => jJ he hq' (by rw [hs]; simp) h
    rw [List.getElem?_set_ne h2, List.getElem?_set_ne h1, List.getElem?_append_left (List.getElem?_eq_some_iff.1 he).1]
    exact he
 ·simp [f13, f16, f18, hq', hget, hil, hma, hrow, hsz, hlt, jv, -getElem?_pos]
  refine hQ _ _ (.tight []) (fun k hk => ?_) ⟨rfl, rfl, rfl⟩ (by simp [f13]) ?_ (fun k e he hs => he)
  ·simp only [upd]
   repeat rw [if_neg (by omega)]
  ·rw [if_neg hlt]
   exact hT
def yu (f : List UInt8) (z : Va) (r : Rw) : List Tb → List Tb
 | [] => [⟨f, [r], z⟩]
 | t :: l => if t.f = f then (if uT r.ag t.rows 0 < 0 then ⟨t.f, t.rows ++ [r], t.els⟩ else t) :: l else t :: yu f z r l
def kf (L : List (Tb × AVal)) : List Tb := L.map fun p => p.1
theorem oO {f : List UInt8} {z : Va} {r : Rw} : ∀ {L : List (Tb × AVal)}, (∀ p ∈ L, p.1.f ≠ f) → yu f z r (kf L) = kf L ++ [⟨f, [r], z⟩]
 | [], _ => rfl
 | p :: l, h => by
  have h1 := h p (by simp)
  have h2 := oO (f := f) (z := z) (r := r) (L := l) fun q hq => h q (by simp [hq])
  simp only [kf] at h2
  simp [kf, yu, h1, h2]
theorem eD {f : List UInt8} : ∀ {L : List (Tb × AVal)} {i : Nat}, (sN f L i = -1 ∧ ∀ p ∈ L, p.1.f ≠ f) ∨ ∃ (j : Nat) (p : Tb × AVal), sN f L i = (i + j : Nat) ∧ L[j]? = some p ∧
  ∀ z r rv, kf (if uT r.ag p.1.rows 0 < 0 then L.set j (⟨p.1.f, p.1.rows ++ [r], p.1.els⟩, rv) else L) = yu f z r (kf L)
 | [], _ => .inl ⟨rfl, by simp⟩
 | p :: l, i => by
  by_cases he : p.1.f = f
  ·refine .inr ⟨0, p, by simp [sN, he], rfl, fun z r rv => ?_⟩
   simp only [kf, List.map_cons, yu, he, if_true]
   split <;> simp
  ·rcases eD (f := f) (L := l) (i := i + 1) with ⟨h1, h2⟩ | ⟨j, q, h1, h2, h3⟩
   ·refine .inl ⟨by simp [sN, he, h1], fun q hq => ?_⟩
    rcases List.mem_cons.1 hq with rfl | hq
    ·exact he
    ·exact h2 q hq
   ·refine .inr ⟨j + 1, q, by simp [sN, he, h1]; omega, by simpa using h2, fun z r rv => ?_⟩
    have h4 := h3 z r rv
    simp only [kf, List.map_cons, yu, he, if_false] at h4 ⊢
    rw [← h4]
    split <;> simp
theorem tbl_skip {Q : LExit → AFr → zb → Prop} {fr : AFr} {G : zb} {j : Nat} (f18 : fr 18 = .p (.int .i64 j)) (hQ : ∀ fr', (∀ k, k < 37 → fr' k = fr k) → Q .normal fr' G) : vc Trun addT Q fr G := by
 have hj : ¬ (j : Int) < 0 := by omega
 simp only [addT, cr, u0, lf12_B0]
 simp [f18, hj]
 refine hQ _ fun k hk => ?_
 simp only [upd]
 repeat rw [if_neg (by omega)]
theorem fQ {Q : LExit → AFr → zb → Prop} {fr : AFr} {G : zb} {L : List (Tb × AVal)} {i : Nat} {p : Tb × AVal} {v a : Va}
  (hlen : L.length ≤ 1000) (hp : L[i]? = some p) (hr : p.1.rows.length ≤ 1000) (wa : a.x.wf) (wv : v.x.wf) (hT : TabsIn G (fr 13) L)
  (f16 : fr 16 = .p (.lst [v.enc, a.enc])) (f18 : fr 18 = .p (.int .i64 i))
  (hQ : ∀ fr' G' rv, (∀ k, k < 13 → fr' k = fr k) → (fr' 33 = fr 33 ∧ fr' 34 = fr 34 ∧ fr' 35 = fr 35) → TabsIn G' (fr' 13) (if uT [a] p.1.rows 0 < 0 then L.set i (⟨p.1.f, p.1.rows ++ [⟨[a], v⟩], p.1.els⟩, rv) else L) → (∀ (k : Nat) (e : Ent), G[k]? = some e → e.size = 0 → G'[k]? = some e) →
   Q .normal fr' G') : vc Trun sW Q fr G := by
 rcases hT.out with ⟨rfl, -⟩ | ⟨q, w, h13, hq⟩
 ·cases hp
 ·rw [h13] at hT
  exact tbl_row hlen hp hr wa wv hq hT h13 f16 f18 fun fr' G' rv h1 h2 h3 h4 h5 => hQ fr' G' rv h1 h2 (by rw [h3]; exact h4) h5
theorem tbl_round {Q : LExit → AFr → zb → Prop} {fr : AFr} {G : zb} {es so : List AVal} {ms : List Md} {i : Nat} {x : Md} {y : Int} {v a : Va} {L : List (Tb × AVal)}
  (hx : ms[i]? = some x) (hag : x.ag = [y]) (hl : kp es [x.id, y] = some [v, a]) (g0 : G[0]? = some ⟨0, 0, false, es, 0⟩) (g1 : G[1]? = some ⟨0, 0, false, so, 0⟩) (hso : qJ x.id so = some (.int .i64 1))
  (hlen : L.length ≤ 500) (hrl : ∀ p ∈ L, p.1.rows.length ≤ 500) (wa : a.x.wf) (wv : v.x.wf) (hT : TabsIn G (fr 13) L)
  (f11 : fr 11 = .omap 0 0) (f12 : fr 12 = .omap 1 0) (f33 : fr 33 = .p (.lst (ms.map cMd.enc))) (f35 : fr 35 = .p (.int .i64 i))
  (hQ : ∀ fr' G' L', (∀ k, k < 13 → fr' k = fr k) → (fr' 33 = fr 33 ∧ fr' 34 = fr 34 ∧ fr' 35 = fr 35) → TabsIn G' (fr' 13) L' → kf L' = yu x.f (uH 1) ⟨[a], v⟩ (kf L) → G'[0]? = some ⟨0, 0, false, es, 0⟩ → G'[1]? = some ⟨0, 0, false, so, 0⟩ → Q .normal fr' G') : vc Trun u0 Q fr G := by
 refine tbl_first hx hag hl g0 f11 f33 f35 fun fr1 Z h1 ⟨h33, h34, h35⟩ h15 h16 => ?_
 have hT1 := hT.more (⟨3, 0, false, [.p (cMd.enc x)], 26⟩ :: Z)
 have hc : (G ++ (⟨3, 0, false, [.p (cMd.enc x)], 26⟩ :: Z))[G.length]? = some ⟨3, 0, false, [.p (cMd.enc x)], 26⟩ := by rw [z5]; rfl
 have g0' : (G ++ (⟨3, 0, false, [.p (cMd.enc x)], 26⟩ :: Z))[0]? = some ⟨0, 0, false, es, 0⟩ := by rw [List.getElem?_append_left (List.getElem?_eq_some_iff.1 g0).1]; exact g0
 have g1' : (G ++ (⟨3, 0, false, [.p (cMd.enc x)], 26⟩ :: Z))[1]? = some ⟨0, 0, false, so, 0⟩ := by rw [List.getElem?_append_left (List.getElem?_eq_some_iff.1 g1).1]; exact g1
 obtain ⟨c, hcc⟩ : ∃ c, c = G.length := ⟨_, rfl⟩
 rw [← hcc] at h15 hc
 obtain ⟨G1, hG1⟩ : ∃ t, t = G ++ (⟨3, 0, false, [.p (cMd.enc x)], 26⟩ :: Z) := ⟨_, rfl⟩
 rw [← hG1] at hT1 hc g0' g1' ⊢
 have e13 := h1 13 (by omega)
 rw [← e13] at hT1
 have hix := sIxT_at hT1 hag (by omega) hc
 have hz : sp1 cI zerP [.int .i64 1] = some (uH 1).enc := rfl
 rw [restT_eq]
 simp only [cr, u0, lf12_B0]
 simp [h15, hix, tF, jv]
 rcases eD (f := x.f) (L := L) (i := 0) with ⟨hno, hne⟩ | ⟨j, p, hj, hp, hput⟩
 ·refine tbl_add (z := uH 1) hag (by omega) g1' hc hso hz (xb 1) (by simp [h1, f12]) rfl (by simp [h15]) (by simpa using hT1) hne (by simp [hno]) fun fr2 G2 v2 a1 ⟨a16, a33, a34, a35⟩ a18 a13 hT2 hk2 => ?_
  show vc Trun sW Q fr2 G2
  rw [← a13] at hT2
  have hp2 : (L ++ [((⟨x.f, [], uH 1⟩ : Tb), AVal.tight [])])[L.length]? = some ((⟨x.f, [], uH 1⟩ : Tb), AVal.tight []) := by simp
  refine fQ (by simp; omega) hp2 (by simp) wa wv hT2 (by rw [a16]; simp [h16]) a18 fun fr3 G3 rv b1 ⟨b33, b34, b35⟩ hT3 hk3 => ?_
  refine hQ fr3 G3 _ (fun k hk => ?_) ⟨?_, ?_, ?_⟩ hT3 ?_ (hk3 _ _ (hk2 _ _ g0' rfl) rfl) (hk3 _ _ (hk2 _ _ g1' rfl) rfl)
  ·rw [b1 k hk, a1 k hk]
   simp only [upd]
   repeat rw [if_neg (by omega)]
   exact h1 k (by omega)
  ·rw [b33, a33]; simp [h33]
  ·rw [b34, a34]; simp [h34]
  ·rw [b35, a35]; simp [h35]
  ·rw [oO hne]
   simp [uT, kf]
 ·have hj' : sN x.f L 0 = (j : Int) := by rw [hj]; simp
  refine tbl_skip (j := j) (by simp [hj']) fun fr2 a1 => ?_
  show vc Trun sW Q fr2 G1
  refine fQ (by omega) hp (Nat.le_trans (hrl p (List.mem_of_getElem? hp)) (by omega)) wa wv (by rw [a1 13 (by omega)]; simpa using hT1) (by rw [a1 16 (by omega)]; simp [h16]) (by rw [a1 18 (by omega)]; simp [hj']) fun fr3 G3 rv b1 ⟨b33, b34, b35⟩ hT3 hk3 => ?_
  refine hQ fr3 G3 _ (fun k hk => ?_) ⟨?_, ?_, ?_⟩ hT3 ?_ (hk3 _ _ g0' rfl) (hk3 _ _ g1' rfl)
  ·rw [b1 k hk, a1 k (by omega)]
   simp only [upd]
   repeat rw [if_neg (by omega)]
   exact h1 k (by omega)
  ·rw [b33, a1 33 (by omega)]; simp [h33]
  ·rw [b34, a1 34 (by omega)]; simp [h34]
  ·rw [b35, a1 35 (by omega)]; simp [h35]
  ·exact hput (uH 1) ⟨[a], v⟩ rv
def okSo (so : List AVal) (x : Md) : Bool := match qJ x.id so with
 | some (.int .i64 n) => decide (n = 1)
 | _ => false
def noCl (es : List AVal) (ms : List Md) : Bool := match vN es ms 0 with
 | some none => true
 | _ => false
def mI (es : List AVal) (x : Md) (l : List Tb) : Option (List Tb) := match x.ag with
 | [y] => (match kp es [x.id, y] with
  | some [v, a] => some (yu x.f (uH 1) ⟨[a], v⟩ l)
  | _ => none)
 | _ => none
def pX (es : List AVal) : List Md → List Tb → Option (List Tb)
 | [], l => some l
 | x :: r, l => match mI es x l with
  | some l' => pX es r l'
  | none => none
def mJ : List Tb → Option (List Tb)
 | [] => some []
 | [x] => some [x]
 | [x, y] => some (if Op.bytesLess y.f x.f = true then [y, x] else [x, y])
 | _ => none
def tbOk (t : Tb) : Bool := decide (t.rows ≠ []) && decide (t.rows.length ≤ 1000000) && t.rows.all rowOk && uz t.els
def px (ms : List Md) (vs : List Vr) (gs : List Gv) : Option PVal :=
 if (decide (ms.length ≤ 200) && decide (vs.length ≤ 1000000) && decide (gs.length ≤ 1000000) && ms.all (okSo (ve (vs.map kvV))) && ms.all Md.few && noCl (ve (gs.map kvG)) ms) = true then
  match pX (ve (gs.map kvG)) ms [] with
  | some T => (match mJ T with
   | some T' => if T'.all tbOk = true then some (.tup [.lst (T'.map cTb.enc), .int .i64 0]) else none
   | none => none)
  | none => none
 else none
theorem okSo_some {so : List AVal} {x : Md} (h : okSo so x = true) : qJ x.id so = some (.int .i64 1) := by
 unfold okSo at h
 split at h
 ·rename_i n hn
  rw [hn, of_decide_eq_true h]
 ·cases h
theorem aZ {es : List AVal} {x : Md} {l l' : List Tb} (h : mI es x l = some l') : ∃ y v a, x.ag = [y] ∧ kp es [x.id, y] = some [v, a] ∧ v.x.wf ∧ a.x.wf ∧ l' = yu x.f (uH 1) ⟨[a], v⟩ l := by
 unfold mI at h
 split at h
 ·rename_i y hy
  split at h
  ·rename_i v a hl
   cases h
   have hw := (uR hl).2.1
   exact ⟨y, v, a, hy, hl, hw v (by simp), hw a (by simp), rfl⟩
  ·cases h
 ·cases h
theorem oP (f : List UInt8) (z : Va) (r : Rw) : ∀ (l : List Tb) {n m : Nat}, l.length ≤ n → (∀ t ∈ l, t.rows.length ≤ m) → (yu f z r l).length ≤ n + 1 ∧ ∀ t ∈ yu f z r l, t.rows.length ≤ m + 1
 | [], n, m, _, _ => ⟨by simp [yu], fun t ht => by
  simp only [yu] at ht
  cases List.mem_singleton.1 ht
  simp⟩
 | t :: l, n, m, h1, h2 => by
  simp only [List.length_cons] at h1
  unfold yu
  split
  ·refine ⟨by simp; omega, fun x hx => ?_⟩
   rcases List.mem_cons.1 hx with rfl | hx
   ·have := h2 t (by simp)
    split
    ·simp; omega
    ·omega
   ·have := h2 x (by simp [hx])
    omega
  ·obtain ⟨h3, h4⟩ := oP f z r l (n := n - 1) (m := m) (by omega) fun x hx => h2 x (by simp [hx])
   refine ⟨by simp; omega, fun x hx => ?_⟩
   rcases List.mem_cons.1 hx with rfl | hx
   ·have := h2 x (by simp)
    omega
   ·exact h4 x hx
theorem tabs_b0 {Q : LExit → AFr → zb → Prop} {fr : AFr} {G : zb} {es so : List AVal} {ms : List Md} {T : List Tb} (hml : ms.length ≤ 200) (hso : ∀ x ∈ ms, okSo so x = true) (hT : pX es ms [] = some T)
  (g0 : G[0]? = some ⟨0, 0, false, es, 0⟩) (g1 : G[1]? = some ⟨0, 0, false, so, 0⟩) (f11 : fr 11 = .omap 0 0) (f12 : fr 12 = .omap 1 0) (f13 : fr 13 = .tight []) (f33 : fr 33 = .p (.lst (ms.map cMd.enc))) (f34 : fr 34 = .p (.int .i64 ms.length)) (f35 : fr 35 = .p (.int .i64 0))
  (hQ : ∀ fr' G' L, TabsIn G' (fr' 13) L → kf L = T → Q .normal fr' G') : vc Trun lf12_B0 Q fr G := by
 obtain ⟨B, hB⟩ : ∃ B, B = u0 := ⟨_, rfl⟩
 have hcode : lf12_B0 = .block 0 (.loop (.seq (match lf12_B0 with | .block _ (.loop (.seq g _)) => g | _ => .skip) (.seq (match lf12_B0 with | .block _ (.loop (.seq _ (.seq g _))) => g | _ => .skip) (.seq (.block 1 B) (match lf12_B0 with | .block _ (.loop (.seq _ (.seq _ (.seq _ c)))) => c | _ => .skip))))) := by subst hB; rfl
 rw [hcode, zr]
 refine zo (fun fr' G' => ∃ (i : Nat) (L : List (Tb × AVal)), i ≤ ms.length ∧ fr' 11 = .omap 0 0 ∧ fr' 12 = .omap 1 0 ∧ fr' 33 = .p (.lst (ms.map cMd.enc)) ∧ fr' 34 = .p (.int .i64 ms.length) ∧ fr' 35 = .p (.int .i64 i) ∧ G'[0]? = some ⟨0, 0, false, es, 0⟩ ∧ G'[1]? = some ⟨0, 0, false, so, 0⟩ ∧ TabsIn G' (fr' 13) L ∧ (kf L).length ≤ i ∧ (∀ t ∈ kf L, t.rows.length ≤ i) ∧ pX es (ms.drop i) (kf L) = some T) (fun fr' _ => ms.length - zA (fr' 35))
  ⟨0, [], by omega, f11, f12, f33, f34, f35, g0, g1, by rw [f13]; exact ⟨(fun p hp => by cases hp), (fun p hp => by cases hp), (fun i j p q k _ hp => by cases hp), .inl ⟨rfl, rfl⟩⟩, by simp [kf], (fun t ht => by cases ht), hT⟩ ?_
 rintro fr1 G1 ⟨i, L, hi, k11, k12, k33, k34, k35, e0, e1, hL, hn, hr, hrun⟩
 simp only [lf12_B0]
 by_cases h : i < ms.length
 ·obtain ⟨x, hx⟩ : ∃ x, ms[i]? = some x := ⟨_, List.getElem?_eq_getElem h⟩
  have hw := zs (i := i) (by omega)
  have hmm : ms.length - (i + 1) < ms.length - i := by omega
  have hdr : ms.drop i = x :: ms.drop (i + 1) := by rw [List.drop_eq_getElem_cons h, z3 hx]
  rw [hdr] at hrun
  simp only [pX] at hrun
  cases hs : mI es x (kf L) with
  | none => rw [hs] at hrun; cases hrun
  | some l' =>
  rw [hs] at hrun
  obtain ⟨y, v, a, hag, hl, wv, wa, rfl⟩ := aZ hs
  have hlf : (kf L).length = L.length := by simp [kf]
  simp [k34, k35, h, -getElem?_pos]
  subst hB
  refine tbl_round (L := L) hx hag hl e0 e1 (okSo_some (hso x (List.mem_of_getElem? hx))) (by omega) (fun p hp => ?_) wa wv (by simpa using hL) (by simp [k11]) (by simp [k12]) (by simp [k33]) (by simp [k35]) fun fr2 G2 L2 a1 ⟨a33, a34, a35⟩ hL2 hf2 c0 c1 => ?_
  ·have := hr p.1 (List.mem_map.2 ⟨p, hp, rfl⟩)
   omega
  ·obtain ⟨p1, p2⟩ := oP x.f (uH 1) ⟨[a], v⟩ (kf L) hn hr
   rw [← hf2] at p1 p2 hrun
   have b35 : fr2 35 = .p (.int .i64 i) := by rw [a35]; simp [k35]
   simp [b35, hw, -getElem?_pos]
   exact ⟨⟨i + 1, h, by rw [a1 11 (by omega)]; simp [k11], by rw [a1 12 (by omega)]; simp [k12], by rw [a33]; simp [k33], by rw [a34]; simp [k34], rfl, c0, c1, L2, hL2, p1, p2, hrun⟩, by simp [zA]; omega⟩
 ·have hil : i = ms.length := by omega
  subst hil
  rw [List.drop_of_length_le (Nat.le_refl _)] at hrun
  cases hrun
  simp [k34, k35, -getElem?_pos]
  exact hQ _ _ _ (by simpa using hL) rfl
theorem TabsIn.elems {G : zb} {q n w : Nat} {L : List (Tb × AVal)} (h : TabsIn G (.own q 0 n w) L) : n = L.length ∧ G[q]? = some (kr w L) := by
 rcases h.out with ⟨-, h⟩ | ⟨q', w', h, hq⟩
 ·cases h
 ·cases h
  exact ⟨rfl, hq⟩
theorem srtT_at {G : zb} {v : AVal} {L : List (Tb × AVal)} {T : List Tb} (hT : TabsIn G v L) (hs : mJ (kf L) = some T) : ∃ G' L', s8 [v, .p (.clo 33 [])] G = some (.p (.tup []), G') ∧ TabsIn G' v L' ∧ kf L' = T := by
 rcases hT.out with ⟨rfl, rfl⟩ | ⟨q, w, rfl, hq⟩
 ·cases hs
  exact ⟨G, [], rfl, hT, rfl⟩
 ·have hn : ∀ p ∈ L, vI (tbA p) = some p.1.f := fun p hp => by
   unfold tbA vI
   simp [(hT.rows p hp).ref]
  match L, hs, hn, hT, hq with
  | [], hs, hn, hT, hq =>
   cases hs
   refine ⟨G, [], ?_, hT, rfl⟩
   simp only [s8, ot, hq, kr, List.map_nil, y4]
   rw [if_pos (by simp)]
   exact congrArg some (congrArg (Prod.mk _) (set_self hq))
  | [p], hs, hn, hT, hq =>
   cases hs
   refine ⟨G, [p], ?_, hT, rfl⟩
   simp only [s8, ot, hq, kr, List.map_cons, List.map_nil, y4]
   rw [if_pos (by simp)]
   exact congrArg some (congrArg (Prod.mk _) (set_self hq))
  | [p, r], hs, hn, hT, hq =>
   have h1 := hn p (by simp)
   have h2 := hn r (by simp)
   simp only [kf, List.map_cons, List.map_nil, mJ, Option.some.injEq] at hs
   cases hb : Op.bytesLess r.1.f p.1.f with
   | false =>
    rw [hb] at hs
    simp only [Bool.false_eq_true, if_false] at hs
    subst hs
    refine ⟨G, [p, r], ?_, hT, rfl⟩
    simp only [s8, ot, hq, kr, List.map_cons, List.map_nil, y4, h1, h2, hb]
    rw [if_pos (by simp)]
    exact congrArg some (congrArg (Prod.mk _) (set_self hq))
   | true =>
    rw [hb] at hs
    simp only [if_true] at hs
    subst hs
    have hsw : ∀ x, x ∈ [r, p] → x ∈ [p, r] := fun x hx => by
     simp only [List.mem_cons, List.not_mem_nil, or_false] at hx ⊢
     exact hx.symm
    have hkeep : ∀ x ∈ [p, r], RowsIn (G.set q (kr w [r, p])) x.2 x.1.rows := fun x hx => by
     have := (hT.rows x hx).set hq (by simp [kr]) [] (kr w [r, p])
     rwa [List.append_nil] at this
    refine ⟨G.set q (kr w [r, p]), [r, p], ?_, ⟨fun x hx => hkeep x (hsw x hx), fun x hx => hT.wf x (hsw x hx), fun i j x y k hij hi hj hk => ?_, .inr ⟨q, w, rfl, List.getElem?_set_self (List.getElem?_eq_some_iff.1 hq).1⟩⟩, rfl⟩
    ·simp only [s8, ot, hq, kr, List.map_cons, List.map_nil, y4, h1, h2, hb]
     rw [if_pos (by simp)]
     rfl
    ·match i, j, hi, hj with
     | 0, 0, _, _ => exact absurd rfl hij
     | 0, 1, hi, hj => cases hi; cases hj; exact hT.apart 1 0 r p k (by omega) rfl rfl hk
     | 1, 0, hi, hj => cases hi; cases hj; exact hT.apart 0 1 p r k (by omega) rfl rfl hk
     | 1, 1, _, _ => exact absurd rfl hij
     | i + 2, _, hi, _ => simp at hi
     | 0, j + 2, _, hj => simp at hj
     | 1, j + 2, _, hj => simp at hj
  | p :: r :: s :: l, hs, _, _, _ => cases hs
def RowsF (G : zb) (rv : AVal) (rows : List Rw) : Prop := (rv = .tight [] ∧ rows = []) ∨ ∃ k w fz, rv = .own k 0 rows.length w ∧ G[k]? = some (jZ w fz rows)
theorem RowsIn.any {G : zb} {rv : AVal} {rows : List Rw} (h : RowsIn G rv rows) : RowsF G rv rows := by
 rcases h with h | ⟨k, w, h1, h2⟩
 ·exact .inl h
 ·exact .inr ⟨k, w, false, h1, h2⟩
theorem RowsF.use {G : zb} {rv : AVal} {rows : List Rw} (h : RowsF G rv rows) : ∃ tl G2, zj G 7 rv = some (.lst (rows.map cRw.enc)) ∧ zh G 7 rv = tl ∧ List.foldl freeze1 G tl = G2 ∧ G2.length = G.length ∧ (∀ (k : Nat) (e : Ent), G[k]? = some e → e.size ≠ 7 → G2[k]? = some e) ∧ (∀ rv' rows', RowsF G rv' rows' → RowsF G2 rv' rows') := by
 rcases h with ⟨rfl, rfl⟩ | ⟨k, w, fz, rfl, hk⟩
 ·exact ⟨[], G, rfl, rfl, rfl, rfl, fun k e h _ => h, fun _ _ h => h⟩
 ·have hl : ((rows.map cRw.enc).map AVal.p).length = rows.length := by simp
  have ht : (((rows.map cRw.enc).map AVal.p).take rows.length) = (rows.map cRw.enc).map AVal.p := List.take_of_length_le (by omega)
  have hkl := (List.getElem?_eq_some_iff.1 hk).1
  refine ⟨[k], G.set k (jZ w true rows), ?_, ?_, ?_, by simp, fun j e he hs => ?_, fun rv' rows' h' => ?_⟩
  ·unfold zj
   simp only [hk, jZ]
   rw [if_pos ⟨trivial, by rw [hl]; omega⟩, List.drop_zero, ht, wM]
  ·unfold zh
   simp only [hk, jZ]
   rw [List.drop_zero, ht, yl]
  ·show freeze1 G k = _
   unfold freeze1
   rw [hk]
   rfl
  ·have := gd (Z := []) (n := jZ w true rows) hk j e he (by simpa [jZ] using hs)
   rwa [List.append_nil] at this
  ·rcases h' with h' | ⟨k', w', fz', h1, h2⟩
   ·exact .inl h'
   ·by_cases hkk : k = k'
    ·subst hkk
     rw [hk] at h2
     simp only [Option.some.injEq, jZ, Ent.mk.injEq] at h2
     refine .inr ⟨k, w, true, ?_, ?_⟩
     ·rw [h1, ← h2.2.1]
     ·rw [List.getElem?_set_self hkl]
      simp only [jZ, h2.2.2.2.1]
    ·exact .inr ⟨k', w', fz', h1, by rw [List.getElem?_set_ne hkk]; exact h2⟩
theorem cell_s (s : List UInt8) : (AVal.p (.str s)).isCell = true := rfl
theorem cell_i (n : Int) : (AVal.p (.int .i64 n)).isCell = true := rfl
theorem cell_b (b : Bool) : (AVal.p (.bool b)).isCell = true := rfl
theorem cell_l (l : List PVal) : (AVal.p (.lst l)).isCell = true := rfl
theorem cell_t : (AVal.tight []).isCell = true := rfl
def sM (L : List (Tb × AVal)) (i : Nat) : List AVal := (L.take i).map (fun p => AVal.p (cTb.enc p.1)) ++ (L.drop i).map tbA
theorem mixE_len {L : List (Tb × AVal)} {i : Nat} (h : i ≤ L.length) : (sM L i).length = L.length := by
 unfold sM
 simp
 omega
theorem mixE_at {L : List (Tb × AVal)} {i : Nat} {p : Tb × AVal} (h : L[i]? = some p) : (sM L i)[i]? = some (tbA p) ∧ (sM L i).set i (.p (cTb.enc p.1)) = sM L (i + 1) := by
 have hi := (List.getElem?_eq_some_iff.1 h).1
 have hl : ((L.take i).map (fun p => AVal.p (cTb.enc p.1))).length = i := by simp; omega
 have hd : L.drop i = p :: L.drop (i + 1) := by rw [List.drop_eq_getElem_cons hi, z3 h]
 unfold sM
 refine ⟨?_, ?_⟩
 ·rw [List.getElem?_append_right (by omega), hl, hd]
  simp
 ·rw [List.set_append_right _ _ (by omega), hl, hd, List.take_add_one, h]
  simp
theorem tabs_b1 {Q : LExit → AFr → zb → Prop} {fr : AFr} {G : zb} {q w : Nat} {L : List (Tb × AVal)} (hlen : L.length ≤ 2) (hq : G[q]? = some (kr w L)) (hT : ∀ p ∈ L, RowsF G p.2 p.1.rows) (hwf : ∀ p ∈ L, cRw.wfL p.1.rows ∧ p.1.els.x.wf) (hok : ∀ p ∈ L, tbOk p.1 = true)
  (f13 : fr 13 = .own q 0 L.length w) (f99 : fr 99 = .own q 0 L.length w) (f100 : fr 100 = .p (.int .i64 L.length)) (f101 : fr 101 = .p (.int .i64 0))
  (hQ : ∀ fr' G', fr' 13 = .own q 0 L.length w → G'[q]? = some ⟨8, w, false, (L.map fun p => AVal.p (cTb.enc p.1)), 54⟩ → Q .normal fr' G') : vc Trun lf12_B1 Q fr G := by
 simp only [lf12_B1, zr]
 refine zo (fun fr' G' => ∃ i : Nat, i ≤ L.length ∧ fr' 13 = .own q 0 L.length w ∧ fr' 99 = .own q 0 L.length w ∧ fr' 100 = .p (.int .i64 L.length) ∧ fr' 101 = .p (.int .i64 i) ∧ G'[q]? = some ⟨8, w, false, sM L i, 54⟩ ∧ ∀ p ∈ L, RowsF G' p.2 p.1.rows) (fun fr' _ => L.length - zA (fr' 101))
  ⟨0, by omega, f13, f99, f100, f101, by rw [hq]; simp [kr, sM], hT⟩ ?_
 rintro fr1 G1 ⟨i, hi, k13, k99, k100, k101, hq1, hT1⟩
 have hml := mixE_len hi
 by_cases h : i < L.length
 ·obtain ⟨p, hp⟩ : ∃ x, L[i]? = some x := ⟨_, List.getElem?_eq_getElem h⟩
  have hw := zs (i := i) (by omega)
  have hmm : L.length - (i + 1) < L.length - i := by omega
  have hpm := List.mem_of_getElem? hp
  obtain ⟨hget, hset⟩ := mixE_at hp
  have hwp := hwf p hpm
  have hok1 := hok p hpm
  simp only [tbOk, Bool.and_eq_true, decide_eq_true_eq] at hok1
  obtain ⟨⟨⟨o1, o2⟩, o3⟩, o4⟩ := hok1
  have hcp : sp1 cTb eZ [cTb.enc p.1] = some (cTb.enc p.1) := (cF (A := cTb) (x := p.1) hwp).trans (if_pos ⟨o1, o2, o3, o4⟩)
  have hRp := hT1 p hpm
  have href : rL p.2 = true := by rcases hRp with ⟨h, -⟩ | ⟨k, u, fz, h, -⟩ <;> rw [h] <;> rfl
  have hma := dZ (nm := .str p.1.f) href [.p (.int .i64 p.1.els.k), .p (.bool p.1.els.b), .p (.bool p.1.els.x.s), .p (.lst (p.1.els.x.n.map u64)), .p (.lst (p.1.els.x.d.map u64)), .p (.int .i64 p.1.els.el)]
  have hen := ut p.1
  simp only [tbA] at hget
  obtain ⟨EN, hEN⟩ : ∃ t, t = p.1.els.x.n.map u64 := ⟨_, rfl⟩
  obtain ⟨ED, hED⟩ : ∃ t, t = p.1.els.x.d.map u64 := ⟨_, rfl⟩
  rw [← hEN, ← hED] at hget hma hen
  have c8 := (ui (nm := .str p.1.f) href []).2
  obtain ⟨ME, hME⟩ : ∃ t, t = sM L i := ⟨_, rfl⟩
  rw [← hME] at hget hset hml hq1
  obtain ⟨CE, hCE⟩ : ∃ t : Ent, t = ⟨8, 0, false, [.agg [.p (.str p.1.f), p.2, .p (.int .i64 p.1.els.k), .p (.bool p.1.els.b), .p (.bool p.1.els.x.s), .p (.lst EN), .p (.lst ED), .p (.int .i64 p.1.els.el)]], 54⟩ := ⟨_, rfl⟩
  have hRp2 : RowsF (G1 ++ [CE]) p.2 p.1.rows := by
   rcases hRp with h | ⟨k, u, fz, h1, h2⟩
   ·exact .inl h
   ·exact .inr ⟨k, u, fz, h1, by rw [List.getElem?_append_left (List.getElem?_eq_some_iff.1 h2).1]; exact h2⟩
  obtain ⟨tl, G2, u1, u2, u3, u4, u5, u6⟩ := hRp2.use
  have hq2 : G2[q]? = some ⟨8, w, false, ME, 54⟩ := u5 q _ (by rw [List.getElem?_append_left (List.getElem?_eq_some_iff.1 hq1).1]; exact hq1) (by simp)
  rw [hCE] at u1 u2 u3
  rw [hen] at hcp hset
  obtain ⟨LR, hLR⟩ : ∃ t, t = p.1.rows.map cRw.enc := ⟨_, rfl⟩
  rw [← hLR] at hcp hset u1
  have hA : ∀ Z, (G1 ++ Z)[q]? = some ⟨8, w, false, ME, 54⟩ := fun Z => by rw [List.getElem?_append_left (List.getElem?_eq_some_iff.1 hq1).1]; exact hq1
  simp [k13, k99, k100, k101, h, hq1, hget, hma, c8, cell_s, cell_i, cell_b, cell_l, cell_t, u1, u2, u3, hq2, hcp, hset, jv, gH, hw, z5, -getElem?_pos, -AVal.isCell, List.getElem?_cons_zero]
  have hql := (List.getElem?_eq_some_iff.1 hq2).1
  refine ⟨⟨i + 1, h, rfl, List.getElem?_set_self hql, fun a b hab => ?_⟩, by first | (simp [zA]; omega) | simpa [zA] using hmm⟩
  have hR3 : RowsF (G1 ++ [CE]) b a.rows := by
   rcases hT1 (a, b) hab with hh | ⟨k, u, fz, h1, h2⟩
   ·exact .inl hh
   ·exact .inr ⟨k, u, fz, h1, by rw [List.getElem?_append_left (List.getElem?_eq_some_iff.1 h2).1]; exact h2⟩
  rcases u6 _ _ hR3 with hh | ⟨k, u, fz, h1, h2⟩
  ·exact .inl hh
  ·refine .inr ⟨k, u, fz, h1, ?_⟩
   rw [List.getElem?_set_ne (fun he => jJ hq2 h2 (by simp [jZ]) he.symm)]
   exact h2
 ·have hil : i = L.length := by omega
  subst hil
  simp [k100, k101, -getElem?_pos]
  refine hQ _ _ (by simp [k13]) ?_
  rw [hq1]
  simp [sM]
theorem sortT_len {l m : List Tb} (h : mJ l = some m) : m.length ≤ 2 := by
 unfold mJ at h
 split at h
 ·cases h; simp
 ·cases h; simp
 ·split at h <;> (cases h; simp)
 ·cases h
theorem tables_ok : zH Tryz.prog base 12 (za (sp3 cMd.lst cVr.lst cGv.lst px)) := by
 refine zd zE Trun_ok ze low12 fun args z hs hf => ?_
 obtain ⟨ms, vs, gs, wm, wv, wg, rfl, hz⟩ := y3 hs
 unfold px at hz
 split at hz
 case isFalse => cases hz
 rename_i hc
 simp only [Bool.and_eq_true, decide_eq_true_eq] at hc
 obtain ⟨⟨⟨⟨⟨hml, hvl⟩, hgl⟩, hso⟩, hfew⟩, hno⟩ := hc
 cases hr : pX (ve (gs.map kvG)) ms [] with
 | none => rw [hr] at hz; cases hz
 | some T =>
 rw [hr] at hz
 simp only at hz
 cases hst : mJ T with
 | none => rw [hst] at hz; cases hz
 | some T' =>
 rw [hst] at hz
 simp only at hz
 split at hz
 case isFalse => cases hz
 rename_i hall
 cases hz
 have hcl : sp2 cMd.lst cGv.lst dz [cMd.lst.enc ms, cGv.lst.enc gs] = some (.tup [.int .i64 0, .int .i64 0, .bool false]) := by
  rw [jD wm wg]
  unfold dz
  rw [if_pos (by simp only [Bool.and_eq_true, decide_eq_true_eq]; exact ⟨⟨hfew, by omega⟩, hgl⟩)]
  unfold noCl at hno
  split at hno
  ·rename_i hh
   rw [hh]
   rfl
  ·cases hno
 have hG := oq hgl wg
 have hV := oo (gs := vs) hvl
 obtain ⟨es, hes⟩ : ∃ t, t = ve (gs.map kvG) := ⟨_, rfl⟩
 obtain ⟨so, hsoe⟩ : ∃ t, t = ve (vs.map kvV) := ⟨_, rfl⟩
 have he0 : es.map (zk 0) = es := by rw [hes]; exact ym 0 _
 have he1 : so.map (zk 1) = so := by rw [hsoe]; exact ym 1 _
 rw [← hes] at hG hr
 rw [← hsoe] at hV hso
 have e1 : cMd.lst.enc ms = .lst (ms.map cMd.enc) := rfl
 have e2 : cVr.lst.enc vs = .lst (vs.map cVr.enc) := rfl
 have e3 : cGv.lst.enc gs = .lst (gs.map cGv.enc) := rfl
 rw [e1, e3] at hcl
 rw [e1, e2, e3]
 refine ⟨by simp [lf12], ?_⟩
 obtain ⟨MS, hMS⟩ : ∃ t, t = ms.map cMd.enc := ⟨_, rfl⟩
 have hMl : MS.length = ms.length := by rw [hMS]; simp
 rw [← hMS] at hcl ⊢
 have s1 : ∀ n (x : PVal), zk n (.p x) = .p x := by intros; simp [zk]
 have s2 : ∀ n k u, zk n (.omap k u) = .omap (n + k) u := by intros; simp [zk]
 simp [lf12, hcl, hG, hV, jv, gH, qX, -zk, s1, s2, he0, he1, hMl]
 refine tabs_b0 (T := T) hml (fun x hx => List.all_eq_true.1 hso x hx) hr rfl rfl (by simp) (by simp) (by simp) (by simp [hMS]) (by simp) (by simp) fun fr1 G1 L hL hfs => ?_
 rw [← hfs] at hst
 obtain ⟨G2, L2, hsrt, hL2, hfs2⟩ := srtT_at hL hst
 have hl2 : L2.length ≤ 2 := by
  have := sortT_len hst
  rw [← hfs2] at this
  simpa [kf] using this
 have hok2 : ∀ p ∈ L2, tbOk p.1 = true := fun p hp => List.all_eq_true.1 hall _ (by rw [← hfs2]; exact List.mem_map.2 ⟨p, hp, rfl⟩)
 have hTe : T'.map cTb.enc = L2.map fun p => cTb.enc p.1 := by rw [← hfs2]; simp [kf, Function.comp_def]
 rw [hTe]
 rcases hL2.out with ⟨rfl, hv⟩ | ⟨q, w, hv, hq⟩
 ·rw [hv] at hsrt
  simp [hv, hsrt, jv]
  simp only [lf12_B1, zr]
  refine zo (fun fr G => fr 13 = .tight [] ∧ fr 100 = .p (.int .i64 0) ∧ fr 101 = .p (.int .i64 0)) (fun _ _ => 0) ⟨by simp [hv], by simp, by simp⟩ ?_
  rintro fr G ⟨h13, h100, h101⟩
  simp [h13, h100, h101]
 ·rw [hv] at hsrt hL2
  have hq' : G2[q]? = some ⟨8, w, false, L2.map tbA, 54⟩ := hq
  have hl3 : (L2.map tbA).length = L2.length := by simp
  obtain ⟨LA, hLA⟩ : ∃ t, t = L2.map tbA := ⟨_, rfl⟩
  rw [← hLA] at hq' hl3
  simp [hv, hsrt, hq', jv, -getElem?_pos]
  refine tabs_b1 hl2 hq (fun p hp => (hL2.rows p hp).any) hL2.wf hok2 (by simp [hv]) (by simp) (by simp) (by simp) fun fr3 G3 h13 hq3 => ?_
  have hl4 : (L2.map fun p => AVal.p (cTb.enc p.1)).length = L2.length := by simp
  have ht : (L2.map fun p => AVal.p (cTb.enc p.1)).take L2.length = L2.map fun p => AVal.p (cTb.enc p.1) := List.take_of_length_le (by omega)
  have hm : ∀ n, zN (zj G3 n) (L2.map fun p => AVal.p (cTb.enc p.1)) = some (L2.map fun p => cTb.enc p.1) := fun n => by
   have := wM G3 n (L2.map fun p => cTb.enc p.1)
   rwa [List.map_map] at this
  obtain ⟨RA, hRA⟩ : ∃ t, t = L2.map fun p => AVal.p (cTb.enc p.1) := ⟨_, rfl⟩
  rw [← hRA] at hl4 ht hm hq3
  simp [h13, hq3, hl4, ht, hm, -getElem?_pos]
end Go.Proofs.YtgbjjikaenlkmaaGreat

namespace Go.Proofs.YtgbjjikaenlkmaaGreat
open Go Go.Abs Go.Limbs
set_option maxRecDepth 20000
section
variable (ν : Int → Int) (κ : Nat → Int)
def nmI (p : Nat) : List UInt8 := if p % 2 = 0 then [103] else [102]
def vaI (p : Nat) (k : Int) : Va := wC 1 (ν k + ((p % 2 : Nat) : Int) * 10)
def mdI (i : Nat) : Md := ⟨2 * i, nmI i, [2 * i + 1]⟩
def gvI (i : Nat) : List Gv := [⟨2 * i, vaI ν i (κ i)⟩, ⟨2 * i + 1, wC 2 (κ i)⟩]
def vrI (i : Nat) : List Vr := [⟨2 * i, 1⟩, ⟨2 * i + 1, 2⟩]
def mdL (n : Nat) : List Md := (List.range n).map mdI
def gvL (n : Nat) : List Gv := (List.range n).flatMap (gvI ν κ)
def vrL (n : Nat) : List Vr := (List.range n).flatMap vrI
theorem mdL_snoc (n : Nat) : mdL (n + 1) = mdL n ++ [mdI n] := by simp [mdL, List.range_succ]
theorem kX (n : Nat) : gvL ν κ (n + 1) = gvL ν κ n ++ gvI ν κ n := by simp [gvL, List.range_succ]
theorem dE (n : Nat) : vrL (n + 1) = vrL n ++ vrI n := by simp [vrL, List.range_succ]
theorem mdL_len (n : Nat) : (mdL n).length = n := by simp [mdL]
theorem nV : ∀ n : Nat, (gvL ν κ n).length = 2 * n
 | 0 => rfl
 | n + 1 => by rw [kX, List.length_append, nV n]; simp [gvI]; omega
theorem xg : ∀ n : Nat, (vrL n).length = 2 * n
 | 0 => rfl
 | n + 1 => by rw [dE, List.length_append, xg n]; simp [vrI]; omega
theorem xQ : ∀ n : Nat, cGv.wfL (gvL ν κ n)
 | 0 => fun x hx => by cases hx
 | n + 1 => fun x hx => by
  rw [kX] at hx
  rcases List.mem_append.1 hx with hx | hx
  ·exact xQ n x hx
  ·simp only [gvI, List.mem_cons, List.not_mem_nil, or_false] at hx
   rcases hx with rfl | rfl <;> exact je _ _
theorem kB (n : Int) : ∀ (l m : List (Int × PVal)), jA n (l ++ m) = match jA n l with | some y => some y | none => jA n m
 | [], m => rfl
 | p :: l, m => by
  by_cases h : p.1 = n
  ·simp [jA, h]
  ·simp [jA, h, kB n l m]
theorem lE : ∀ (n : Nat) (k : Int), (2 * n : Nat) ≤ k → jA k ((gvL ν κ n).map kvG) = none
 | 0, k, _ => rfl
 | n + 1, k, h => by
  rw [kX, List.map_append, kB, lE n k (by omega)]
  simp only [gvI, List.map_cons, List.map_nil, kvG, jA]
  rw [if_neg (by omega), if_neg (by omega)]
theorem gvL_get : ∀ (n i : Nat), i < n → jA (2 * i : Nat) ((gvL ν κ n).map kvG) = some (vaI ν i (κ i)).enc ∧ jA (2 * i + 1 : Nat) ((gvL ν κ n).map kvG) = some (wC 2 (κ i)).enc
 | 0, i, h => by omega
 | n + 1, i, h => by
  rw [kX, List.map_append, kB, kB]
  by_cases hi : i < n
  ·obtain ⟨h1, h2⟩ := gvL_get n i hi
   rw [h1, h2]
   exact ⟨rfl, rfl⟩
  ·obtain rfl : i = n := by omega
   rw [lE ν κ i _ (by omega), lE ν κ i _ (by omega)]
   simp only [gvI, List.map_cons, List.map_nil, kvG, jA]
   rw [if_pos (by omega), if_neg (by omega), if_pos (by omega)]
   exact ⟨rfl, rfl⟩
theorem vrL_no : ∀ (n : Nat) (k : Int), (2 * n : Nat) ≤ k → jA k ((vrL n).map kvV) = none
 | 0, k, _ => rfl
 | n + 1, k, h => by
  rw [dE, List.map_append, kB, vrL_no n k (by omega)]
  simp only [vrI, List.map_cons, List.map_nil, kvV, jA]
  rw [if_neg (by omega), if_neg (by omega)]
theorem zak : ∀ (n i : Nat), i < n → jA (2 * i : Nat) ((vrL n).map kvV) = some (.int .i64 1)
 | 0, i, h => by omega
 | n + 1, i, h => by
  rw [dE, List.map_append, kB]
  by_cases hi : i < n
  ·rw [zak n i hi]
  ·obtain rfl : i = n := by omega
   rw [vrL_no i _ (by omega)]
   simp only [vrI, List.map_cons, List.map_nil, kvV, jA]
   rw [if_pos (by omega)]
theorem mc (n : Int) : ∀ (l m : List Gv), (∀ g ∈ l, g.id ≠ n) → jB n (l ++ m) = jB n m
 | [], m, _ => rfl
 | p :: l, m, h => by
  have h1 := h p (by simp)
  simp only [List.cons_append, jB, h1, if_false]
  exact mc n l m fun g hg => h g (by simp [hg])
theorem mb (n : Int) : ∀ (l m : List Gv), (∃ g ∈ l, g.id = n) → jB n (l ++ m) = jB n l
 | [], m, h => by obtain ⟨g, hg, -⟩ := h; cases hg
 | p :: l, m, h => by
  by_cases hp : p.id = n
  ·simp [jB, hp]
  ·simp only [List.cons_append, jB, hp, if_false]
   refine mb n l m ?_
   obtain ⟨g, hg, he⟩ := h
   rcases List.mem_cons.1 hg with rfl | hg
   ·exact absurd he hp
   ·exact ⟨g, hg, he⟩
theorem xR : ∀ (n : Nat), ∀ g ∈ gvL ν κ n, 0 ≤ g.id ∧ g.id < 2 * n
 | 0, g, h => by cases h
 | n + 1, g, h => by
  rw [kX] at h
  rcases List.mem_append.1 h with h | h
  ·have := xR n g h
   omega
  ·simp only [gvI, List.mem_cons, List.not_mem_nil, or_false] at h
   rcases h with rfl | rfl <;> (simp only; omega)
theorem tM : ∀ (n i : Nat), i < n → jB (2 * i) (gvL ν κ n) = vaI ν i (κ i) ∧ jB (2 * i + 1) (gvL ν κ n) = wC 2 (κ i)
 | 0, i, h => by omega
 | n + 1, i, h => by
  rw [kX]
  by_cases hi : i < n
  ·obtain ⟨h1, h2⟩ := tM n i hi
   have hm : ∀ g ∈ gvI ν κ i, g ∈ gvL ν κ n := fun g hg => List.mem_flatMap.2 ⟨i, List.mem_range.2 hi, hg⟩
   rw [mb _ _ _ ⟨⟨2 * i, vaI ν i (κ i)⟩, hm _ (by simp [gvI]), rfl⟩, mb _ _ _ ⟨⟨2 * i + 1, wC 2 (κ i)⟩, hm _ (by simp [gvI]), rfl⟩]
   exact ⟨h1, h2⟩
  ·obtain rfl : i = n := by omega
   rw [mc _ _ _ fun g hg he => by have := xR ν κ i g hg; omega, mc _ _ _ fun g hg he => by have := xR ν κ i g hg; omega]
   simp only [gvI, jB]
   rw [if_pos trivial, if_neg (by omega), if_pos trivial]
   exact ⟨rfl, rfl⟩
theorem dc {n i : Nat} (h : i < n) : kp (ve ((gvL ν κ n).map kvG)) [(2 * i : Int), 2 * i + 1] = some [vaI ν i (κ i), wC 2 (κ i)] := by
 obtain ⟨h1, h2⟩ := gvL_get ν κ n i h
 have e1 : ((2 * i : Nat) : Int) = 2 * (i : Int) := by omega
 have e2 : ((2 * i + 1 : Nat) : Int) = 2 * (i : Int) + 1 := by omega
 rw [e1] at h1
 rw [e2] at h2
 have d1 : cVa.dec (vaI ν i (κ i)).enc = some (vaI ν i (κ i)) := cVa.de _ (je _ _)
 have d2 : cVa.dec (wC 2 (κ i)).enc = some (wC 2 (κ i)) := cVa.de _ (je _ _)
 simp only [kp, yB, h1, h2, d1, d2]
end
theorem pI (a b : Int) : jm (wC 2 a) (wC 2 b) = decide (a = b) := by
 simp [jm, wC]
theorem nw {es : List AVal} {a : Md} : ∀ (l : List Md) (k : Nat), (∀ b ∈ l, yK es a b = some false) → ub es a l k = some none
 | [], _, _ => rfl
 | b :: r, k, h => by
  simp only [ub, h b (by simp)]
  exact nw r (k + 1) fun x hx => h x (by simp [hx])
theorem nA {es : List AVal} : ∀ (l : List Md) (k : Nat), (∀ a ∈ l, ∀ b ∈ l, yK es a b = some false) → vN es l k = some none
 | [], _, _ => rfl
 | a :: r, k, h => by
  simp only [vN, nw r (k + 1) fun b hb => h a (by simp) b (by simp [hb])]
  exact nA r (k + 1) fun x hx y hy => h x (by simp [hx]) y (by simp [hy])
theorem nmI_eq {p q : Nat} (h : nmI p = nmI q) : p % 2 = q % 2 := by
 unfold nmI at h
 have h1 := Nat.mod_two_eq_zero_or_one p
 have h2 := Nat.mod_two_eq_zero_or_one q
 rcases h1 with h1 | h1 <;> rcases h2 with h2 | h2 <;> simp [h1, h2] at h ⊢
section
variable (ν : Int → Int) (κ : Nat → Int)
theorem noCl_all (n : Nat) : noCl (ve ((gvL ν κ n).map kvG)) (mdL n) = true := by
 unfold noCl
 rw [nA (mdL n) 0 fun a ha b hb => ?_]
 obtain ⟨i, hi, rfl⟩ := List.mem_map.1 ha
 obtain ⟨j, hj, rfl⟩ := List.mem_map.1 hb
 have hi := dc ν κ (List.mem_range.1 hi)
 have hj := dc ν κ (List.mem_range.1 hj)
 unfold yK
 split
 ·rename_i hc
  have hp := nmI_eq hc.1
  simp only [mdI, hi, hj, qf, pI, Bool.and_true]
  by_cases he : κ i = κ j
  ·have : vaI ν i (κ i) = vaI ν j (κ j) := by unfold vaI; rw [hp, he]
   rw [this, pH]
   simp
  ·simp [he]
 ·rfl
def rwI (p : Nat) (k : Int) : Rw := ⟨[wC 2 k], vaI ν p k⟩
theorem idxR_no (p : Nat) (k : Int) : ∀ (D : List Int) (i : Nat), k ∉ D → uT [wC 2 k] (D.map (rwI ν p)) i = -1
 | [], _, _ => rfl
 | d :: D, i, h => by
  have h1 : ¬ d = k := fun e => h (by simp [e])
  have h2 := idxR_no p k D (i + 1) fun e => h (by simp [e])
  simp only [List.map_cons, uT, rwI, qf, pI, Bool.and_true]
  rw [if_neg (by simpa using h1)]
  exact h2
theorem eE (p : Nat) (k : Int) : ∀ (D : List Int) (i : Nat), k ∈ D → 0 ≤ uT [wC 2 k] (D.map (rwI ν p)) i
 | [], _, h => by cases h
 | d :: D, i, h => by
  simp only [List.map_cons, uT, rwI, qf, pI, Bool.and_true]
  split
  ·omega
  ·rename_i hd
   refine eE p k D (i + 1) ?_
   rcases List.mem_cons.1 h with rfl | h
   ·exact absurd (by simp) hd
   ·exact h
theorem sh (p : Nat) (k : Int) (e : Va) : ∀ (D : List Int), k ∈ D → uE (wC 2 k) (D.map (rwI ν p)) e = vaI ν p k
 | [], h => by cases h
 | d :: D, h => by
  simp only [List.map_cons, uE, rwI, qf, pI, Bool.and_true]
  by_cases hd : d = k
  ·subst hd
   simp
  ·rw [if_neg (by simpa using hd)]
   refine sh p k e D ?_
   rcases List.mem_cons.1 h with rfl | h
   ·exact absurd rfl hd
   ·exact h
structure TabK (p i : Nat) (t : Tb) (D : List Int) : Prop where
 f : t.f = nmI p
 els : t.els = uH 1
 rows : t.rows = D.map (rwI ν p)
 ne : D ≠ []
 nd : D.Nodup
 few : D.length ≤ i
 rng : ∀ k ∈ D, ∃ j, k = κ j
 has : ∀ j, j < i → j % 2 = p % 2 → κ j ∈ D
def pA (i : Nat) (T : List Tb) : List Tb := yu (nmI i) (uH 1) (rwI ν i (κ i)) T
def sI : Nat → List Tb
 | 0 => []
 | i + 1 => pA ν κ i (sI i)
theorem oG {es : List AVal} : ∀ (l : List Md) (x : Md) (a : List Tb), pX es (l ++ [x]) a = match pX es l a with | some b => mI es x b | none => none
 | [], x, a => by
  simp only [List.nil_append, pX]
  cases mI es x a <;> rfl
 | y :: l, x, a => by
  simp only [List.cons_append, pX]
  cases mI es y a with
  | none => rfl
  | some b => exact oG l x b
theorem runR_I {N : Nat} : ∀ n, n ≤ N → pX (ve ((gvL ν κ N).map kvG)) (mdL n) [] = some (sI ν κ n)
 | 0, _ => rfl
 | n + 1, h => by
  rw [mdL_snoc, oG, runR_I n (by omega)]
  simp only [mI, mdI, dc ν κ (show n < N by omega)]
  rfl
theorem TabK.step_same {p i : Nat} {t : Tb} {D : List Int} (h : TabK ν κ p i t D) (hp : i % 2 ≠ p % 2) : TabK ν κ p (i + 1) t D :=
 ⟨h.f, h.els, h.rows, h.ne, h.nd, by have := h.few; omega, h.rng, fun j hj hjp => by
  by_cases he : j = i
  ·subst he; exact absurd hjp hp
  ·exact h.has j (by omega) hjp⟩
theorem rwI_par {p i : Nat} (hp : i % 2 = p % 2) : rwI ν i = rwI ν p := by
 funext k
 unfold rwI vaI
 rw [hp]
theorem TabK.step_put {p i : Nat} {t : Tb} {D : List Int} (h : TabK ν κ p i t D) (hp : i % 2 = p % 2) :
  ∃ D', TabK ν κ p (i + 1) (if uT (rwI ν i (κ i)).ag t.rows 0 < 0 then ⟨t.f, t.rows ++ [rwI ν i (κ i)], t.els⟩ else t) D' := by
 have hr := rwI_par ν hp
 have hag : (rwI ν i (κ i)).ag = [wC 2 (κ i)] := rfl
 rw [hag, h.rows]
 by_cases hk : κ i ∈ D
 ·have h1 := eE ν p (κ i) D 0 hk
  rw [if_neg (by omega)]
  refine ⟨D, h.f, h.els, h.rows, h.ne, h.nd, by have := h.few; omega, h.rng, fun j hj hjp => ?_⟩
  by_cases he : j = i
  ·subst he; exact hk
  ·exact h.has j (by omega) hjp
 ·have h1 := idxR_no ν p (κ i) D 0 hk
  rw [if_pos (by omega)]
  refine ⟨D ++ [κ i], h.f, h.els, by rw [hr]; simp, by simp, ?_, by have := h.few; simp; omega, fun k hk' => ?_, fun j hj hjp => ?_⟩
  ·rw [List.nodup_append]
   exact ⟨h.nd, by simp, fun a ha b hb => by simp at hb; subst hb; exact fun e => hk (e ▸ ha)⟩
  ·rcases List.mem_append.1 hk' with hk' | hk'
   ·exact h.rng k hk'
   ·exact ⟨i, by simpa using hk'⟩
  ·by_cases he : j = i
   ·subst he; simp
   ·exact List.mem_append_left _ (h.has j (by omega) hjp)
theorem TabK.new (i : Nat) (hi : i < 2) : TabK ν κ i (i + 1) ⟨nmI i, [rwI ν i (κ i)], uH 1⟩ [κ i] :=
 ⟨rfl, rfl, rfl, by simp, by simp, by simp, fun k hk => ⟨i, by simpa using hk⟩, fun j hj hjp => by
  have : j = i := by omega
  subst this
  simp⟩
theorem nm01 : nmI 0 ≠ nmI 1 := by decide
theorem nm_even {i : Nat} (h : i % 2 = 0) : nmI i = nmI 0 := by simp [nmI, h]
theorem iV {i : Nat} (h : i % 2 = 1) : nmI i = nmI 1 := by simp [nmI, h]
theorem run_inv : ∀ i, (i = 0 ∧ sI ν κ i = []) ∨ (i = 1 ∧ ∃ t D, sI ν κ i = [t] ∧ TabK ν κ 0 i t D) ∨ (2 ≤ i ∧ ∃ t D u E, sI ν κ i = [t, u] ∧ TabK ν κ 0 i t D ∧ TabK ν κ 1 i u E)
 | 0 => .inl ⟨rfl, rfl⟩
 | i + 1 => by
  rcases run_inv i with ⟨rfl, h⟩ | ⟨rfl, t, D, h, ht⟩ | ⟨h2, t, D, u, E, h, ht, hu⟩
  ·exact .inr (.inl ⟨rfl, _, _, by simp [sI, pA, yu], TabK.new ν κ 0 (by omega)⟩)
  ·refine .inr (.inr ⟨by omega, t, D, _, _, ?_, ht.step_same ν κ (by omega), TabK.new ν κ 1 (by omega)⟩)
   have hf : ¬ t.f = nmI 1 := by rw [ht.f]; exact nm01
   have hr : sI ν κ 2 = pA ν κ 1 (sI ν κ 1) := rfl
   rw [hr, h]
   simp [pA, yu, hf]
  ·refine .inr (.inr ⟨by omega, ?_⟩)
   have hr : sI ν κ (i + 1) = pA ν κ i (sI ν κ i) := rfl
   rw [hr, h]
   rcases Nat.mod_two_eq_zero_or_one i with hp | hp
   ·obtain ⟨D', hD'⟩ := ht.step_put ν κ (by omega)
    refine ⟨_, D', u, E, ?_, hD', hu.step_same ν κ (by omega)⟩
    simp only [pA, yu]
    rw [if_pos (by rw [ht.f, nm_even hp])]
   ·obtain ⟨E', hE'⟩ := hu.step_put ν κ (by omega)
    refine ⟨t, D, _, E', ?_, ht.step_same ν κ (by omega), hE'⟩
    simp only [pA, yu]
    rw [if_neg (by rw [ht.f, iV hp]; exact nm01), if_pos (by rw [hu.f, iV hp])]
end
end Go.Proofs.YtgbjjikaenlkmaaGreat

namespace Go.Proofs.YtgbjjikaenlkmaaGreat
open Go Go.Abs Go.Limbs
variable {base : Prot}
set_option maxRecDepth 20000
attribute [local irreducible] vc
attribute [local simp] za zh freezeL fuel zk u64 au
def Tq24 : Tab := (((((((Tab.none.with 7 (za dQ)).with 6 (za oC)).with 8 (za ((sp2 cI cI aV)))).with 12 (za ((sp3 cMd.lst cVr.lst cGv.lst px)))).with 16 (za ((sp2 cGv.lst cI di)))).with 13 (za ((sp2 cVa cVa qA)))).with 14 (za tj)).with 15 (za sApp)
theorem Tq24_ok : TabOk Tryz.prog base Tq24 := Tab.with_ok (Tab.with_ok (Tab.with_ok (Tab.with_ok (Tab.with_ok (Tab.with_ok (Tab.with_ok (Tab.with_ok Tab.none_ok roundN_ok) l8) value_ok') tables_ok) look_ok) tn) rfind_ok) rapply_ok
theorem vG (f : FuncId) (a : List AVal) (H : zb) : Tq24.mu f a H = none := (rfl)
theorem wh : Tq24.fn 7 = (za dQ) ∧ Tq24.fn 6 = (za oC) ∧ Tq24.fn 8 = (za ((sp2 cI cI aV))) ∧ Tq24.fn 12 = (za ((sp3 cMd.lst cVr.lst cGv.lst px))) ∧ Tq24.fn 16 = (za ((sp2 cGv.lst cI di))) ∧ Tq24.fn 13 = (za ((sp2 cVa cVa qA))) ∧ Tq24.fn 14 = (za tj) ∧ Tq24.fn 15 = (za sApp) := ⟨rfl, rfl, rfl, rfl, rfl, rfl, rfl, rfl⟩
def VA (sz : Nat) (ty : TypeId) (G : zb) (v : AVal) (P : List PVal) : Prop := (P = [] ∧ v = .tight []) ∨ ∃ k w, v = .own k 0 P.length w ∧ G[k]? = some ⟨sz, w, false, P.map .p, ty⟩
def Kp (s : Nat) (G G' : zb) : Prop := ∀ (k : Nat) (e : Ent), G[k]? = some e → e.size = s → G'[k]? = some e
theorem Kp.refl (s : Nat) (G : zb) : Kp s G G := fun _ _ h _ => h
theorem Kp.trans {s : Nat} {G H K : zb} (h : Kp s G H) (h' : Kp s H K) : Kp s G K := fun k e he hs => h' k e (h k e he hs) hs
theorem Kp.app (s : Nat) (G Z : zb) : Kp s G (G ++ Z) := fun k e he _ => by rw [List.getElem?_append_left (List.getElem?_eq_some_iff.1 he).1]; exact he
theorem Kp.set {s : Nat} {G Z : zb} {q : Nat} {e' n : Ent} (hq : G[q]? = some e') (hs : e'.size ≠ s) : Kp s G ((G ++ Z).set q n) := fun k e he h => gd hq k e he (by rw [h]; exact fun h => hs h.symm)
theorem VA.keep {sz : Nat} {ty : TypeId} {G G' : zb} {v : AVal} {P : List PVal} (h : VA sz ty G v P) (hk : Kp sz G G') : VA sz ty G' v P := by
 rcases h with h | ⟨k, w, h1, h2⟩
 ·exact .inl h
 ·exact .inr ⟨k, w, h1, hk k _ h2 rfl⟩
def mdA (i p : Nat) : AVal := .agg [.p (.int .i64 (2 * i)), .p (.str (nmI i)), .own p 0 1 0]
def yC : List Nat → Nat → List AVal
 | [], _ => []
 | p :: r, i => mdA i p :: yC r (i + 1)
def MdIn (G : zb) (v : AVal) (n : Nat) : Prop := ∃ ps : List Nat, ps.length = n ∧ (∀ (i p : Nat), ps[i]? = some p → G[p]? = some ⟨1, 0, false, [.p (.int .i64 (2 * i + 1))], 3⟩) ∧
 ((n = 0 ∧ v = .tight []) ∨ ∃ k w, v = .own k 0 n w ∧ G[k]? = some ⟨3, w, false, yC ps 0, 26⟩)
theorem MdIn.keep {G G' : zb} {v : AVal} {n : Nat} (h : MdIn G v n) (h1 : Kp 1 G G') (h3 : Kp 3 G G') : MdIn G' v n := by
 obtain ⟨ps, hl, hp, h⟩ := h
 refine ⟨ps, hl, fun i p hi => h1 p _ (hp i p hi) rfl, ?_⟩
 rcases h with h | ⟨k, w, e1, e2⟩
 ·exact .inl h
 ·exact .inr ⟨k, w, e1, h3 k _ e2 rfl⟩
theorem tI (p : Nat) : ∀ (ps : List Nat) (i : Nat), yC (ps ++ [p]) i = yC ps i ++ [mdA (i + ps.length) p]
 | [], i => by simp [yC]
 | q :: r, i => by
  simp only [List.cons_append, yC, tI p r (i + 1), List.length_cons]
  rw [show i + 1 + r.length = i + (r.length + 1) by omega]
theorem br : ∀ (ps : List Nat) (i : Nat), (yC ps i).length = ps.length
 | [], _ => rfl
 | p :: r, i => by simp [yC, br r (i + 1)]
theorem mdsA_at : ∀ (ps : List Nat) (i j p : Nat), ps[j]? = some p → (yC ps i)[j]? = some (mdA (i + j) p)
 | [], _, _, _, h => by simp at h
 | q :: r, i, 0, p, h => by simp at h; subst h; rfl
 | q :: r, i, j + 1, p, h => by
  have := mdsA_at r (i + 1) j p (by simpa using h)
  simp only [yC, List.getElem?_cons_succ, this]
  rw [show i + 1 + j = i + (j + 1) by omega]
def sg : LCode := match lf4_B0 with | .block _ (.loop (.seq _ (.seq (.block _ b) _))) => b | _ => .skip
def bq1 : LCode := match sg with | .seq c _ => c | _ => .skip
def bq2 : LCode := match sg with | .seq _ (.seq c _) => c | _ => .skip
def bq3 : LCode := match sg with | .seq _ (.seq _ (.seq c _)) => c | _ => .skip
def bq4 : LCode := match sg with | .seq _ (.seq _ (.seq _ (.seq c _))) => c | _ => .skip
def bq5 : LCode := match sg with | .seq _ (.seq _ (.seq _ (.seq _ c))) => c | _ => .skip
theorem bdyQ_eq : sg = .seq bq1 (.seq bq2 (.seq bq3 (.seq bq4 bq5))) := rfl
theorem bq1_walk {Q : LExit → AFr → zb → Prop} {fr : AFr} {G : zb} {i : Nat} (hi : i < 100) (f8 : fr 8 = .p (.int .i64 i)) (hm : MdIn G (fr 5) i)
  (hQ : ∀ fr' G', (∀ k, k < 5 → fr' k = fr k) → (fr' 6 = fr 6 ∧ fr' 7 = fr 7 ∧ fr' 8 = fr 8) → MdIn G' (fr' 5) (i + 1) → Kp 7 G G' → Kp 2 G G' → Q .normal fr' G') : vc Tq24 bq1 Q fr G := by
 have w1 : IntKind.i64.wrap (2 * (i : Int)) = 2 * i := IntWalk.i64_in _ (by omega)
 have w00 : IntKind.i64.wrap 0 = 0 := by decide
 have w11 : IntKind.i64.wrap 1 = 1 := by decide
 have w2 : IntKind.i64.wrap (2 * (i : Int) + 1) = 2 * i + 1 := IntWalk.i64_in _ (by omega)
 obtain ⟨b, hb⟩ : ∃ b, b = i % 2 := ⟨_, rfl⟩
 have hr : Int.tmod (i : Int) 2 = (b : Int) := by rw [Int.tmod_eq_emod_of_nonneg (by omega)]; omega
 have hmx : maxLen = 9223372036854775807 := rfl
 have hb1 : 1 ≤ maxLen := by omega
 have hnm : ([.p (.str [103]), .p (.str [102])] : List AVal)[b]? = some (.p (.str (nmI i))) := by
  rw [hb]
  unfold nmI
  rcases Nat.mod_two_eq_zero_or_one i with h | h <;> simp [h]
 have hlt : b < 2 := by omega
 have hlt' : (b : Int) < 2 := by omega
 obtain ⟨ps, hpl, hps, hv⟩ := hm
 simp only [bq1, sg, lf4_B0]
 rcases hv with ⟨h0, hv⟩ | ⟨k, w, hv, hk⟩
 ·subst h0
  simp [f8, hv, w00, w11, zO, qv, hb1, jM, z5, -getElem?_pos, List.getElem?_cons_zero, List.getElem?_cons_succ]
  have hps0 : ps = [] := List.length_eq_zero_iff.1 hpl
  subst hps0
  refine hQ _ _ (fun k hk => ?_) ⟨rfl, rfl, by simp [f8]⟩ ⟨[G.length + 1], rfl, fun i p hp => ?_, .inr ⟨G.length + 3, 0, rfl, ?_⟩⟩ (Kp.app _ _ _) (Kp.app _ _ _)
  ·simp only [upd]
   repeat rw [if_neg (by omega)]
  ·match i, hp with
   | 0, hp =>
    cases hp
    rw [jM]
    rfl
   | i + 1, hp => simp at hp
  ·rw [jM]
   rfl
 ·have hkl := (List.getElem?_eq_some_iff.1 hk).1
  have hA : ∀ Z, (G ++ Z)[k]? = some ⟨3, w, false, yC ps 0, 26⟩ := fun Z => by rw [List.getElem?_append_left hkl]; exact hk
  have a1 : ∀ (x y z : Ent), qC 3 48 26 (.own k 0 i w) [mdA i (G.length + 1)] (G ++ [x, y, z]) = some (.own k 0 (i + 1) (w + 1), (G ++ [x, y, z]).set k ⟨3, w + 1, false, yC (ps ++ [G.length + 1]) 0, 26⟩) := fun x y z => by
   have hml := br ps 0
   rw [u9 (size := 3) (ver := w) (n := i) (fz := false) (els := yC ps 0) (ty := 26) (hA _) rfl (by omega) (by rw [hml, hpl]) (by rw [hml, hpl]; simp; omega) (by rw [hml, hpl, hmx]; simp; omega)]
   rw [tI, hpl]
   simp
  obtain ⟨NI, hNI⟩ : ∃ t, t = nmI i := ⟨_, rfl⟩
  have hmd : mdA i (G.length + 1) = .agg [.p (.int .i64 (2 * i)), .p (.str NI), .own (G.length + 1) 0 1 0] := by rw [hNI]; rfl
  rw [hmd] at a1
  rw [← hNI] at hnm
  simp [f8, hv, w1, w2, hr, hnm, hlt', a1, zO, qv, jM, z5, -qC, -getElem?_pos, List.getElem?_cons_zero, List.getElem?_cons_succ]
  have hkn : k ≠ G.length + 1 := by omega
  refine hQ _ _ (fun k hk => ?_) ⟨rfl, rfl, by simp [f8]⟩ ⟨ps ++ [G.length + 1], by simp [hpl], fun j p hp => ?_, .inr ⟨k, w + 1, rfl, ?_⟩⟩ (Kp.set hk (by simp)) (Kp.set hk (by simp))
  ·simp only [upd]
   repeat rw [if_neg (by omega)]
  ·rcases Nat.lt_or_ge j ps.length with h | h
   ·rw [List.getElem?_append_left h] at hp
    exact (Kp.set (s := 1) hk (by simp)) p _ (hps j p hp) rfl
   ·rw [List.getElem?_append_right h] at hp
    have hj : j = i := by
     have := (List.getElem?_eq_some_iff.1 hp).1
     simp at this
     omega
    subst hj
    rw [hpl, Nat.sub_self] at hp
    cases hp
    rw [List.getElem?_set_ne hkn, jM]
    rfl
  ·rw [List.getElem?_set_self (by rw [List.length_append]; omega)]
def dr (al : List Int) (i : Nat) : Int := al.getD i 0 % 4
def nuI (vl : List Int) (k : Int) : Int := vl.getD (k % ((max vl.length 1 : Nat) : Int)).toNat 0 % 3
theorem eB (al : List Int) (i : Nat) : 0 ≤ dr al i ∧ dr al i < 4 := ⟨Int.emod_nonneg _ (by omega), Int.emod_lt_of_pos _ (by omega)⟩
theorem xG (vl : List Int) (k : Int) : 0 ≤ nuI vl k ∧ nuI vl k < 3 := ⟨Int.emod_nonneg _ (by omega), Int.emod_lt_of_pos _ (by omega)⟩
theorem bq23_walk {Q : LExit → AFr → zb → Prop} {fr : AFr} {G : zb} {al vl : List Int} {i : Nat} {a : Int} (hi : i < 100) (ha : al[i]? = some a) (hv : 0 < vl.length) (hv2 : vl.length ≤ 1000) (f0 : fr 0 = .p (.lst (iL al))) (f1 : fr 1 = .p (.lst (iL vl))) (f8 : fr 8 = .p (.int .i64 i))
  (hQ : ∀ fr', (∀ k, k < 9 → fr' k = fr k) → fr' 9 = .p (.int .i64 (dr al i)) → fr' 10 = .p (.int .i64 (nuI vl (dr al i) + ((i % 2 : Nat) : Int) * 10)) → Q .normal fr' G) : vc Tq24 (.seq bq2 bq3) Q fr G := by
 have hk := eB al i
 have hn := xG vl (dr al i)
 have hka : dr al i = a % 4 := by unfold dr; rw [List.getD_eq_getElem?_getD, ha]; rfl
 have hga : (iL al)[i]? = some (.int .i64 a) := by unfold iL; rw [List.getElem?_map, ha]; rfl
 have hll := xP vl
 have hr1 := pJ (k := a) (n := 4) (by omega) (by omega)
 rw [← hka] at hr1
 obtain ⟨K, hK⟩ : ∃ t, t = dr al i := ⟨_, rfl⟩
 rw [← hK] at hk hn hr1 hka hQ
 have hmax : ((max vl.length 1 : Nat) : Int) = vl.length := by omega
 have hmr : Int.tmod K vl.length = K % vl.length := Int.tmod_eq_emod_of_nonneg (by omega)
 obtain ⟨j, hj⟩ : ∃ j : Nat, j = (K % (vl.length : Int)).toNat := ⟨_, rfl⟩
 have hjn : 0 ≤ K % (vl.length : Int) := Int.emod_nonneg _ (by omega)
 have hjl : K % (vl.length : Int) < vl.length := Int.emod_lt_of_pos _ (by omega)
 have hje : K % (vl.length : Int) = j := by omega
 have hjv : j < vl.length := by omega
 obtain ⟨v, hvj⟩ : ∃ v, vl[j]? = some v := ⟨_, List.getElem?_eq_getElem hjv⟩
 have hgv : (iL vl)[j]? = some (.int .i64 v) := by unfold iL; rw [List.getElem?_map, hvj]; rfl
 have hnu : nuI vl K = v % 3 := by unfold nuI; rw [hmax, hje, List.getD_eq_getElem?_getD]; simp [hvj]
 have hr2 := pJ (k := v) (n := 3) (by omega) (by omega)
 rw [← hnu] at hr2
 obtain ⟨N, hN⟩ : ∃ t, t = nuI vl K := ⟨_, rfl⟩
 rw [← hN] at hr2 hn hQ
 obtain ⟨b, hb⟩ : ∃ b, b = i % 2 := ⟨_, rfl⟩
 have hr : Int.tmod (i : Int) 2 = (b : Int) := by rw [Int.tmod_eq_emod_of_nonneg (by omega)]; omega
 rw [← hb] at hQ
 have hb2 : b < 2 := by omega
 have w1 : IntKind.i64.wrap ((b : Int) * 10) = b * 10 := IntWalk.i64_in _ (by omega)
 have w2 : IntKind.i64.wrap (N + (b : Int) * 10) = N + b * 10 := IntWalk.i64_in _ (by omega)
 obtain ⟨AL, hAL⟩ : ∃ t, t = iL al := ⟨_, rfl⟩
 obtain ⟨VL, hVL⟩ : ∃ t, t = iL vl := ⟨_, rfl⟩
 rw [← hAL] at hga f0
 rw [← hVL] at hgv hll f1
 have hvl1 : ¬ (vl.length : Int) < 1 := by omega
 have hvne : ¬ vl = [] := fun h => by rw [h] at hv; simp at hv
 simp only [bq2, bq3, sg, lf4_B0]
 simp [f0, f1, f8, hga, hr1, hll, hmr, hje, hgv, hr2, hr, w1, w2, hvl1, hvne, vG, wh, -getElem?_pos]
 refine hQ _ (fun k hk => ?_) ?_ ?_
 ·simp only [upd]
  repeat rw [if_neg (by omega)]
 ·rfl
 ·rfl
theorem bq4_walk {Q : LExit → AFr → zb → Prop} {fr : AFr} {G : zb} {ν : Int → Int} {κ : Nat → Int} {i : Nat} (hi : i < 100) (hk : 0 ≤ κ i ∧ κ i < 4) (hn : 0 ≤ ν (κ i) ∧ ν (κ i) < 3) (f8 : fr 8 = .p (.int .i64 i)) (f9 : fr 9 = .p (.int .i64 (κ i))) (f10 : fr 10 = .p (.int .i64 (ν (κ i) + ((i % 2 : Nat) : Int) * 10)))
  (hm : VA 7 38 G (fr 6) ((gvL ν κ i).map cGv.enc))
  (hQ : ∀ fr' G', (∀ k, k < 6 → fr' k = fr k) → (fr' 7 = fr 7 ∧ fr' 8 = fr 8) → VA 7 38 G' (fr' 6) ((gvL ν κ (i + 1)).map cGv.enc) → Kp 1 G G' → Kp 2 G G' → Kp 3 G G' → Q .normal fr' G') : vc Tq24 bq4 Q fr G := by
 have w1 : IntKind.i64.wrap (2 * (i : Int)) = 2 * i := IntWalk.i64_in _ (by omega)
 have w2 : IntKind.i64.wrap (2 * (i : Int) + 1) = 2 * i + 1 := IntWalk.i64_in _ (by omega)
 have w00 : IntKind.i64.wrap 0 = 0 := by decide
 have w11 : IntKind.i64.wrap 1 = 1 := by decide
 have hmx : maxLen = 9223372036854775807 := rfl
 have hb1 : 2 ≤ maxLen := by omega
 have v1 : sp2 cI cI aV [.int .i64 1, .int .i64 (ν (κ i) + ((i % 2 : Nat) : Int) * 10)] = some (vaI ν i (κ i)).enc := (jD (A := cI) (B := cI) (x := 1) (y := ν (κ i) + ((i % 2 : Nat) : Int) * 10) trivial trivial).trans (if_pos (by omega))
 have v2 : sp2 cI cI aV [.int .i64 2, .int .i64 (κ i)] = some (wC 2 (κ i)).enc := (jD (A := cI) (B := cI) (x := 2) (y := κ i) trivial trivial).trans (if_pos (by omega))
 have hve : ∀ v : Va, v.enc = .agg [.int .i64 v.k, .bool v.b, .bool v.x.s, .lst (v.x.n.map u64), .lst (v.x.d.map u64), .int .i64 v.el] := fun _ => rfl
 have hll := nV ν κ i
 have hsn : (gvL ν κ (i + 1)).map cGv.enc = (gvL ν κ i).map cGv.enc ++ [.agg (.int .i64 (2 * i) :: (vaI ν i (κ i)).cells), .agg (.int .i64 (2 * i + 1) :: (wC 2 (κ i)).cells)] := by rw [kX, List.map_append]; rfl
 rw [hsn] at hQ
 obtain ⟨PL, hPL⟩ : ∃ t, t = (gvL ν κ i).map cGv.enc := ⟨_, rfl⟩
 have hpl : PL.length = 2 * i := by rw [hPL]; simpa using hll
 rw [← hPL] at hm hQ
 obtain ⟨N, hN⟩ : ∃ t, t = ν (κ i) + ((i % 2 : Nat) : Int) * 10 := ⟨_, rfl⟩
 rw [← hN] at f10 v1
 obtain ⟨K, hK⟩ : ∃ t, t = κ i := ⟨_, rfl⟩
 rw [← hK] at f9 v1 v2 hQ
 obtain ⟨VA1, hVA⟩ : ∃ t, t = vaI ν i K := ⟨_, rfl⟩
 obtain ⟨VM, hVM⟩ : ∃ t, t = wC 2 K := ⟨_, rfl⟩
 rw [← hVA] at v1 hQ
 rw [← hVM] at v2 hQ
 rw [hve] at v1 v2
 have c1 : VA1.cells = [.int .i64 VA1.k, .bool VA1.b, .bool VA1.x.s, .lst (VA1.x.n.map u64), .lst (VA1.x.d.map u64), .int .i64 VA1.el] := rfl
 have c2 : VM.cells = [.int .i64 VM.k, .bool VM.b, .bool VM.x.s, .lst (VM.x.n.map u64), .lst (VM.x.d.map u64), .int .i64 VM.el] := rfl
 rw [c1, c2] at hQ
 obtain ⟨AN, hAN⟩ : ∃ t, t = VA1.x.n.map u64 := ⟨_, rfl⟩
 obtain ⟨AD, hAD⟩ : ∃ t, t = VA1.x.d.map u64 := ⟨_, rfl⟩
 obtain ⟨MN, hMN⟩ : ∃ t, t = VM.x.n.map u64 := ⟨_, rfl⟩
 obtain ⟨MD, hMD⟩ : ∃ t, t = VM.x.d.map u64 := ⟨_, rfl⟩
 rw [← hAN, ← hAD] at v1 hQ
 rw [← hMN, ← hMD] at v2 hQ
 simp only [bq4, sg, lf4_B0]
 rcases hm with ⟨h0, hv⟩ | ⟨k, w, hv, hk⟩
 ·subst h0
  have hi0 : i = 0 := by simp at hpl; omega
  subst hi0
  simp [f8, f9, f10, hv, w00, w11, v1, v2, zO, qv, vG, wh, hb1, z5, -getElem?_pos, List.getElem?_cons_zero]
  refine hQ _ _ (fun k hk => ?_) ⟨rfl, by simp [f8]⟩ (.inr ⟨G.length + 1, 0, rfl, ?_⟩) (Kp.app _ _ _) (Kp.app _ _ _) (Kp.app _ _ _)
  ·simp only [upd]
   repeat rw [if_neg (by omega)]
  ·rw [jM]
   rfl
 ·have hkl := (List.getElem?_eq_some_iff.1 hk).1
  have hA : ∀ Z, (G ++ Z)[k]? = some ⟨7, w, false, PL.map .p, 38⟩ := fun Z => by rw [List.getElem?_append_left hkl]; exact hk
  have a1 : ∀ (x : Ent) (y z : List PVal), y.length = 7 → z.length = 7 → y.all (fun c => (AVal.p c).isCell) = true → z.all (fun c => (AVal.p c).isCell) = true → qC 7 88 38 (.own k 0 PL.length w) [.p (.agg y), .p (.agg z)] (G ++ [x]) = some (.own k 0 (PL.length + 2) (w + 1), (G ++ [x]).set k ⟨7, w + 1, false, (PL ++ [PVal.agg y, PVal.agg z]).map .p, 38⟩) := fun x y z hy hz cy cz => by
   rw [u9 (size := 7) (ver := w) (n := PL.length) (fz := false) (els := PL.map .p) (ty := 38) (hA _) (by simp [AVal.cells, PVal.cells, hy, hz, List.all_map, Function.comp_def]; exact ⟨by simpa using cy, by simpa using cz⟩) (by omega) (by simp) (by simp; omega) (by rw [hmx]; simp; omega)]
   simp
  simp [f8, f9, f10, hv, w1, w2, v1, v2, a1, zO, qv, vG, wh, z5, -qC, -getElem?_pos, List.getElem?_cons_zero]
  refine hQ _ _ (fun k hk => ?_) ⟨rfl, by simp [f8]⟩ (.inr ⟨k, w + 1, ?_, ?_⟩) (Kp.set hk (by simp)) (Kp.set hk (by simp)) (Kp.set hk (by simp))
  ·simp only [upd]
   repeat rw [if_neg (by omega)]
  ·simp
  ·rw [List.getElem?_set_self (by rw [List.length_append]; omega)]
   simp
theorem bq5_walk {Q : LExit → AFr → zb → Prop} {fr : AFr} {G : zb} {i : Nat} (hi : i < 100) (f8 : fr 8 = .p (.int .i64 i))
  (hm : VA 2 29 G (fr 7) ((vrL i).map cVr.enc))
  (hQ : ∀ fr' G', (∀ k, k < 7 → fr' k = fr k) → fr' 8 = fr 8 → VA 2 29 G' (fr' 7) ((vrL (i + 1)).map cVr.enc) → Kp 1 G G' → Kp 3 G G' → Kp 7 G G' → Q .normal fr' G') : vc Tq24 bq5 Q fr G := by
 have w1 : IntKind.i64.wrap (2 * (i : Int)) = 2 * i := IntWalk.i64_in _ (by omega)
 have w2 : IntKind.i64.wrap (2 * (i : Int) + 1) = 2 * i + 1 := IntWalk.i64_in _ (by omega)
 have w00 : IntKind.i64.wrap 0 = 0 := by decide
 have w11 : IntKind.i64.wrap 1 = 1 := by decide
 have hmx : maxLen = 9223372036854775807 := rfl
 have hb1 : 2 ≤ maxLen := by omega
 have hll := xg i
 have hsn : (vrL (i + 1)).map cVr.enc = (vrL i).map cVr.enc ++ [.agg [.int .i64 (2 * i), .int .i64 1], .agg [.int .i64 (2 * i + 1), .int .i64 2]] := by rw [dE, List.map_append]; rfl
 rw [hsn] at hQ
 obtain ⟨PL, hPL⟩ : ∃ t, t = (vrL i).map cVr.enc := ⟨_, rfl⟩
 have hpl : PL.length = 2 * i := by rw [hPL]; simpa using hll
 rw [← hPL] at hm hQ
 simp only [bq5, sg, lf4_B0]
 rcases hm with ⟨h0, hv⟩ | ⟨k, w, hv, hk⟩
 ·subst h0
  have hi0 : i = 0 := by simp at hpl; omega
  subst hi0
  simp [f8, hv, w00, w11, zO, qv, hb1, z5, -getElem?_pos, List.getElem?_cons_zero]
  refine hQ _ _ (fun k hk => ?_) (by simp [f8]) (.inr ⟨G.length + 1, 0, rfl, ?_⟩) (Kp.app _ _ _) (Kp.app _ _ _) (Kp.app _ _ _)
  ·simp only [upd]
   repeat rw [if_neg (by omega)]
  ·rw [jM]
   rfl
 ·have hkl := (List.getElem?_eq_some_iff.1 hk).1
  have hA : ∀ Z, (G ++ Z)[k]? = some ⟨2, w, false, PL.map .p, 29⟩ := fun Z => by rw [List.getElem?_append_left hkl]; exact hk
  have a1 : ∀ (x : Ent) (y z : Int), qC 2 16 29 (.own k 0 PL.length w) [.p (.agg [.int .i64 y, .int .i64 1]), .p (.agg [.int .i64 z, .int .i64 2])] (G ++ [x]) = some (.own k 0 (PL.length + 2) (w + 1), (G ++ [x]).set k ⟨2, w + 1, false, (PL ++ [PVal.agg [.int .i64 y, .int .i64 1], PVal.agg [.int .i64 z, .int .i64 2]]).map .p, 29⟩) := fun x y z => by
   rw [u9 (size := 2) (ver := w) (n := PL.length) (fz := false) (els := PL.map .p) (ty := 29) (hA _) rfl (by omega) (by simp) (by simp; omega) (by rw [hmx]; simp; omega)]
   simp
  simp [f8, hv, w1, w2, a1, zO, qv, z5, -qC, -getElem?_pos, List.getElem?_cons_zero]
  refine hQ _ _ (fun k hk => ?_) (by simp [f8]) (.inr ⟨k, w + 1, ?_, ?_⟩) (Kp.set hk (by simp)) (Kp.set hk (by simp)) (Kp.set hk (by simp))
  ·simp only [upd]
   repeat rw [if_neg (by omega)]
  ·simp
  ·rw [List.getElem?_set_self (by rw [List.length_append]; omega)]
   simp
theorem vc_assoc {T : Tab} {a b c : LCode} {Q : LExit → AFr → zb → Prop} {fr : AFr} {H : zb} : vc T (.seq a (.seq b c)) Q fr H = vc T (.seq (.seq a b) c) Q fr H := by
 rw [yY, yY, yY]
 congr 1
 funext e fr' H'
 cases e with
 | normal => exact yY
 | _ => rfl
theorem bq_all {Q : LExit → AFr → zb → Prop} {fr : AFr} {G : zb} {al vl : List Int} (hn : al.length ≤ 10) (hv : al.length ≤ vl.length) (hv2 : vl.length ≤ 20)
  (f0 : fr 0 = .p (.lst (iL al))) (f1 : fr 1 = .p (.lst (iL vl))) (f5 : fr 5 = .tight []) (f6 : fr 6 = .tight []) (f7 : fr 7 = .tight []) (f8 : fr 8 = .p (.int .i64 0))
  (hQ : ∀ fr' G', (∀ k, k < 5 → fr' k = fr k) → MdIn G' (fr' 5) al.length → VA 7 38 G' (fr' 6) ((gvL (nuI vl) (dr al) al.length).map cGv.enc) → VA 2 29 G' (fr' 7) ((vrL al.length).map cVr.enc) → Q .normal fr' G') : vc Tq24 lf4_B0 Q fr G := by
 obtain ⟨B, hB⟩ : ∃ B, B = sg := ⟨_, rfl⟩
 have hcode : lf4_B0 = .block 0 (.loop (.seq (match lf4_B0 with | .block _ (.loop (.seq g _)) => g | _ => .skip) (.seq (.block 1 B) (match lf4_B0 with | .block _ (.loop (.seq _ (.seq _ c))) => c | _ => .skip)))) := by subst hB; rfl
 rw [hcode, zr]
 have hll := xP al
 refine zo (fun fr' G' => ∃ i : Nat, i ≤ al.length ∧ (∀ k, k < 5 → fr' k = fr k) ∧ fr' 8 = .p (.int .i64 i) ∧ MdIn G' (fr' 5) i ∧ VA 7 38 G' (fr' 6) ((gvL (nuI vl) (dr al) i).map cGv.enc) ∧ VA 2 29 G' (fr' 7) ((vrL i).map cVr.enc)) (fun fr' _ => al.length - zA (fr' 8))
  ⟨0, by omega, fun _ _ => rfl, f8, ⟨[], rfl, (fun i p hp => by simp at hp), .inl ⟨rfl, f5⟩⟩, .inl ⟨rfl, f6⟩, .inl ⟨rfl, f7⟩⟩ ?_
 rintro fr1 G1 ⟨i, hi, hfr, k8, hm, hg, hvv⟩
 have k0 : fr1 0 = .p (.lst (iL al)) := by rw [hfr 0 (by omega)]; exact f0
 have k1 : fr1 1 = .p (.lst (iL vl)) := by rw [hfr 1 (by omega)]; exact f1
 simp only [lf4_B0]
 by_cases h : i < al.length
 ·obtain ⟨a, ha⟩ : ∃ x, al[i]? = some x := ⟨_, List.getElem?_eq_getElem h⟩
  have hw := zs (i := i) (by omega)
  have hmm : al.length - (i + 1) < al.length - i := by omega
  simp [k0, k8, hll, h, -getElem?_pos]
  subst hB
  rw [bdyQ_eq, yY]
  refine bq1_walk (i := i) (by omega) (by simp [k8]) (by simpa using hm) fun fr2 G2 a1 ⟨a6, a7, a8⟩ hm2 kp7 kp2 => ?_
  show vc Tq24 (.seq bq2 (.seq bq3 (.seq bq4 bq5))) _ fr2 G2
  have b0 : fr2 0 = .p (.lst (iL al)) := by rw [a1 0 (by omega)]; simp [k0]
  have b1 : fr2 1 = .p (.lst (iL vl)) := by rw [a1 1 (by omega)]; simp [k1]
  have b8 : fr2 8 = .p (.int .i64 i) := by rw [a8]; simp [k8]
  rw [vc_assoc, yY]
  refine bq23_walk (by omega) ha (by omega) (by omega) b0 b1 b8 fun fr3 c1 c9 c10 => ?_
  show vc Tq24 (.seq bq4 bq5) _ fr3 G2
  have hg2 : VA 7 38 G2 (fr3 6) ((gvL (nuI vl) (dr al) i).map cGv.enc) := by
   rw [c1 6 (by omega), a6]
   exact VA.keep (by simpa using hg) kp7
  rw [yY]
  refine bq4_walk (i := i) (by omega) (eB al i) (xG vl _) (by rw [c1 8 (by omega)]; exact b8) c9 c10 hg2 fun fr4 G4 d1 ⟨d7, d8⟩ hg4 kq1 kq2 kq3 => ?_
  show vc Tq24 bq5 _ fr4 G4
  have hv4 : VA 2 29 G4 (fr4 7) ((vrL i).map cVr.enc) := by
   rw [d7, c1 7 (by omega), a7]
   exact VA.keep (VA.keep (by simpa using hvv) kp2) kq2
  refine bq5_walk (i := i) (by omega) (by rw [d8, c1 8 (by omega)]; exact b8) hv4 fun fr5 G5 e1 e8 hv5 kr1 kr3 kr7 => ?_
  have k85 : fr5 8 = .p (.int .i64 i) := by rw [e8, d8, c1 8 (by omega)]; exact b8
  have hm5 : MdIn G5 (fr5 5) (i + 1) := by
   rw [e1 5 (by omega), d1 5 (by omega), c1 5 (by omega)]
   exact (hm2.keep kq1 kq3).keep kr1 kr3
  have hg5 : VA 7 38 G5 (fr5 6) ((gvL (nuI vl) (dr al) (i + 1)).map cGv.enc) := by
   rw [e1 6 (by omega)]
   exact hg4.keep kr7
  have hf5 : ∀ k, k < 5 → fr5 k = fr k := fun k hk => by
   rw [e1 k (by omega), d1 k (by omega), c1 k (by omega), a1 k (by omega), ← hfr k hk]
   simp only [upd]
   repeat rw [if_neg (by omega)]
  simp [k85, hw, -getElem?_pos]
  refine ⟨⟨i + 1, h, fun k hk => ?_, rfl, hm5, hg5, hv5⟩, by simp [zA]; omega⟩
  rw [if_neg (by omega), if_neg (by omega), if_neg (by omega)]
  exact hf5 k hk
 ·have hil : i = al.length := by omega
  subst hil
  simp [k0, k8, hll, -getElem?_pos]
  refine hQ _ _ (fun k hk => ?_) (by simpa using hm) (by simpa using hg) (by simpa using hvv)
  rw [← hfr k hk]
  simp only [upd]
  repeat rw [if_neg (by omega)]
end Go.Proofs.YtgbjjikaenlkmaaGreat

namespace Go.Proofs.YtgbjjikaenlkmaaGreat
open Go Go.Abs Go.Limbs
set_option maxRecDepth 20000
theorem small1 : ((List.range 13).all fun n => uz (wC 1 (n : Nat))) = true := by kernel_rfl
theorem small2 : uz (uH 1) = true := by kernel_rfl
theorem small3 (k : Int) : uz (wC 2 k) = true := by
 have : (wC 2 k).x = zF := by simp [wC]
 unfold uz
 rw [this]
 decide
section
variable {ν : Int → Int} {κ : Nat → Int}
theorem small_vaI (hν : ∀ k, 0 ≤ ν k ∧ ν k < 3) (p : Nat) (k : Int) : uz (vaI ν p k) = true := by
 have h1 := hν k
 have h2 := List.all_eq_true.1 small1 (ν k + ((p % 2 : Nat) : Int) * 10).toNat (List.mem_range.2 (by omega))
 have h3 : (((ν k + ((p % 2 : Nat) : Int) * 10).toNat : Nat) : Int) = ν k + ((p % 2 : Nat) : Int) * 10 := by omega
 rw [h3] at h2
 exact h2
theorem TabK.ok {p i : Nat} {t : Tb} {D : List Int} (h : TabK ν κ p i t D) (hi : i ≤ 1000) (hν : ∀ k, 0 ≤ ν k ∧ ν k < 3) : tbOk t = true := by
 unfold tbOk
 have hf := h.few
 simp only [Bool.and_eq_true, decide_eq_true_eq]
 refine ⟨⟨⟨?_, ?_⟩, ?_⟩, ?_⟩
 ·rw [h.rows]
  intro he
  exact h.ne (List.map_eq_nil_iff.1 he)
 ·rw [h.rows, List.length_map]
  omega
 ·rw [h.rows, List.all_eq_true]
  intro r hr
  obtain ⟨k, -, rfl⟩ := List.mem_map.1 hr
  unfold rowOk rwI
  simp [small3, small_vaI hν]
 ·rw [h.els]
  exact small2
def FinT (ν : Int → Int) (κ : Nat → Int) (n : Nat) (T : List Tb) : Prop := (n = 0 ∧ T = []) ∨ (n = 1 ∧ ∃ t D, T = [t] ∧ TabK ν κ 0 n t D) ∨ (2 ≤ n ∧ ∃ t D u E, T = [u, t] ∧ TabK ν κ 0 n t D ∧ TabK ν κ 1 n u E)
theorem tabs_res {n : Nat} (hn : n ≤ 10) (hν : ∀ k, 0 ≤ ν k ∧ ν k < 3) : ∃ T, FinT ν κ n T ∧ px (mdL n) (vrL n) (gvL ν κ n) = some (.tup [.lst (T.map cTb.enc), .int .i64 0]) := by
 have hc : (decide ((mdL n).length ≤ 200) && decide ((vrL n).length ≤ 1000000) && decide ((gvL ν κ n).length ≤ 1000000) && (mdL n).all (okSo (ve ((vrL n).map kvV))) && (mdL n).all Md.few && noCl (ve ((gvL ν κ n).map kvG)) (mdL n)) = true := by
  simp only [Bool.and_eq_true, decide_eq_true_eq]
  refine ⟨⟨⟨⟨⟨?_, ?_⟩, ?_⟩, ?_⟩, ?_⟩, noCl_all ν κ n⟩
  ·rw [mdL_len]; omega
  ·rw [xg]; omega
  ·rw [nV]; omega
  ·rw [List.all_eq_true]
   intro x hx
   obtain ⟨i, hi, rfl⟩ := List.mem_map.1 hx
   have h1 := zak n i (List.mem_range.1 hi)
   have e1 : ((2 * i : Nat) : Int) = 2 * (i : Int) := by omega
   rw [e1] at h1
   unfold okSo mdI
   simp only [yB, h1, decide_true]
  ·rw [List.all_eq_true]
   intro x hx
   obtain ⟨i, hi, rfl⟩ := List.mem_map.1 hx
   simp [Md.few, mdI]
 unfold px
 rw [if_pos hc, runR_I ν κ n (Nat.le_refl n)]
 rcases run_inv ν κ n with ⟨h, hr⟩ | ⟨h, t, D, hr, ht⟩ | ⟨h, t, D, u, E, hr, ht, hu⟩
 ·refine ⟨[], .inl ⟨h, rfl⟩, ?_⟩
  rw [hr]
  rfl
 ·refine ⟨[t], .inr (.inl ⟨h, t, D, rfl, ht⟩), ?_⟩
  rw [hr]
  simp only [mJ]
  rw [if_pos (by simp [ht.ok (by omega) hν])]
 ·refine ⟨[u, t], .inr (.inr ⟨h, t, D, u, E, rfl, ht, hu⟩), ?_⟩
  have hb : Op.bytesLess u.f t.f = true := by rw [hu.f, ht.f]; decide
  rw [hr]
  simp only [mJ, hb, if_true]
  rw [if_pos (by simp [ht.ok (by omega) hν, hu.ok (by omega) hν])]
end
end Go.Proofs.YtgbjjikaenlkmaaGreat

namespace Go.Proofs.YtgbjjikaenlkmaaGreat
open Go Go.Abs Go.Limbs
variable {base : Prot}
set_option maxRecDepth 20000
attribute [local irreducible] vc
attribute [local simp] za zh freezeL fuel zk u64 au
section
variable {ν : Int → Int}
theorem rwI_enc (p : Nat) (k : Int) : cRw.enc (rwI ν p k) = .agg [.lst [(wC 2 k).enc], .int .i64 (vaI ν p k).k, .bool (vaI ν p k).b, .bool (vaI ν p k).x.s, .lst ((vaI ν p k).x.n.map u64), .lst ((vaI ν p k).x.d.map u64), .int .i64 (vaI ν p k).el] := rfl
theorem tq_b1 {Q : LExit → AFr → zb → Prop} {fr : AFr} {G : zb} {T : List Tb} {t : Tb} {D : List Int} {i k p : Nat} (hT : T[i]? = some t) (hr : t.rows = D.map (rwI ν p)) (hnd : D.Nodup) (hk : k < D.length) (hl : D.length ≤ 1000)
  (f11 : fr 11 = .p (.lst (T.map cTb.enc))) (f13 : fr 13 = .p (.int .i64 i)) (f14 : fr 14 = .p (.int .i64 k)) (f15 : fr 15 = .p (.int .i64 0))
  (hQ : ∀ fr', (∀ j, j < 15 → fr' j = fr j) → Q .normal fr' G) : vc Tq24 lf4_B1 Q fr G := by
 have hil := (List.getElem?_eq_some_iff.1 hT).1
 obtain ⟨TL, hTL⟩ : ∃ x, x = T.map cTb.enc := ⟨_, rfl⟩
 have htl : TL.length = T.length := by rw [hTL]; simp
 have hgT : TL[i]? = some (cTb.enc t) := by rw [hTL, List.getElem?_map, hT]; rfl
 rw [ut] at hgT
 obtain ⟨LR, hLR⟩ : ∃ x, x = t.rows.map cRw.enc := ⟨_, rfl⟩
 have hlr : LR.length = D.length := by rw [hLR, hr]; simp
 have hgR : ∀ (j : Nat) d, D[j]? = some d → LR[j]? = some (cRw.enc (rwI ν p d)) := fun j d h => by rw [hLR, hr, List.getElem?_map, List.getElem?_map, h]; rfl
 rw [← hLR] at hgT
 rw [← hTL] at f11
 simp only [lf4_B1, zr]
 refine zo (fun fr' G' => G' = G ∧ ∃ j : Nat, j ≤ k ∧ (∀ m, m < 15 → fr' m = fr m) ∧ fr' 15 = .p (.int .i64 j)) (fun fr' _ => k - zA (fr' 15)) ⟨rfl, 0, by omega, fun _ _ => rfl, f15⟩ ?_
 rintro fr1 G1 ⟨rfl, j, hj, hfr, k15⟩
 have k11 := (hfr 11 (by omega)).trans f11
 have k13 := (hfr 13 (by omega)).trans f13
 have k14 := (hfr 14 (by omega)).trans f14
 by_cases h : j < k
 ·have hw := zs (i := j) (by omega)
  obtain ⟨dk, hdk⟩ : ∃ x, D[k]? = some x := ⟨_, List.getElem?_eq_getElem hk⟩
  obtain ⟨dj, hdj⟩ : ∃ x, D[j]? = some x := ⟨_, List.getElem?_eq_getElem (by omega)⟩
  have hne : ¬ dk = dj := fun he => by
   have := (List.getElem?_inj hk hnd).1 (hdk.trans (by rw [he, hdj]))
   omega
  have gk := hgR k dk hdk
  have gj := hgR j dj hdj
  rw [rwI_enc] at gk gj
  have hS : sp2 cVa cVa qA [(wC 2 dk).enc, (wC 2 dj).enc] = some (.bool false) := by
   refine (jD (A := cVa) (B := cVa) (g := qA) (je _ _) (je _ _)).trans ?_
   unfold qA
   rw [pI]
   simp [hne]
  have hve : ∀ v : Va, v.enc = .agg [.int .i64 v.k, .bool v.b, .bool v.x.s, .lst (v.x.n.map u64), .lst (v.x.d.map u64), .int .i64 v.el] := fun _ => rfl
  rw [hve, hve] at hS
  rw [hve] at gk gj
  have hjD : j < D.length := by omega
  simp [k11, k13, k14, k15, h, hgT, gk, gj, hS, hw, vG, wh, -getElem?_pos, List.getElem?_cons_zero]
  refine ⟨⟨j + 1, h, fun m hm => ?_, rfl⟩, by simp [zA]; omega⟩
  repeat rw [if_neg (by omega)]
  exact hfr m hm
 ·have hjk : j = k := by omega
  subst hjk
  simp [k14, k15, -getElem?_pos]
  refine hQ _ fun m hm => ?_
  rw [← hfr m hm]
  simp only [upd]
  repeat rw [if_neg (by omega)]
theorem tq_b2 {Q : LExit → AFr → zb → Prop} {fr : AFr} {G : zb} {T : List Tb} {t : Tb} {D : List Int} {i p : Nat} (hT : T[i]? = some t) (hr : t.rows = D.map (rwI ν p)) (hnd : D.Nodup) (hl : D.length ≤ 1000)
  (f11 : fr 11 = .p (.lst (T.map cTb.enc))) (f13 : fr 13 = .p (.int .i64 i)) (f14 : fr 14 = .p (.int .i64 0))
  (hQ : ∀ fr', (∀ j, j < 14 → fr' j = fr j) → Q .normal fr' G) : vc Tq24 lf4_B2 Q fr G := by
 have hil := (List.getElem?_eq_some_iff.1 hT).1
 obtain ⟨TL, hTL⟩ : ∃ x, x = T.map cTb.enc := ⟨_, rfl⟩
 have htl : TL.length = T.length := by rw [hTL]; simp
 have hgT : TL[i]? = some (cTb.enc t) := by rw [hTL, List.getElem?_map, hT]; rfl
 rw [ut] at hgT
 obtain ⟨LR, hLR⟩ : ∃ x, x = t.rows.map cRw.enc := ⟨_, rfl⟩
 have hlr : LR.length = D.length := by rw [hLR, hr]; simp
 rw [← hLR] at hgT
 rw [← hTL] at f11
 simp only [lf4_B2, zr]
 refine zo (fun fr' G' => G' = G ∧ ∃ j : Nat, j ≤ D.length ∧ (∀ m, m < 14 → fr' m = fr m) ∧ fr' 14 = .p (.int .i64 j)) (fun fr' _ => D.length - zA (fr' 14)) ⟨rfl, 0, by omega, fun _ _ => rfl, f14⟩ ?_
 rintro fr1 G1 ⟨rfl, j, hj, hfr, k14⟩
 have k11 := (hfr 11 (by omega)).trans f11
 have k13 := (hfr 13 (by omega)).trans f13
 by_cases h : j < D.length
 ·have hw := zs (i := j) (by omega)
  simp [k11, k13, k14, h, hlr, hgT, -getElem?_pos]
  refine tq_b1 hT hr hnd h hl (by simp [k11, hTL]) (by simp [k13]) (by simp [k14]) (by simp) fun fr2 h2 => ?_
  have k24 : fr2 14 = .p (.int .i64 j) := by rw [h2 14 (by omega)]; simp [k14]
  simp [k24, hw, -getElem?_pos]
  refine ⟨⟨j + 1, h, fun m hm => ?_, rfl⟩, by simp [zA]; omega⟩
  rw [if_neg (by omega), if_neg (by omega), if_neg (by omega), h2 m (by omega), ← hfr m hm]
  simp only [upd]
  repeat rw [if_neg (by omega)]
 ·have hjk : j = D.length := by omega
  subst hjk
  simp [k11, k13, k14, hlr, hgT, -getElem?_pos]
  refine hQ _ fun m hm => ?_
  rw [← hfr m hm]
  simp only [upd]
  repeat rw [if_neg (by omega)]
theorem zer_same : sp2 cVa cVa qA [(uH 1).enc, (wC 1 0).enc] = some (.bool true) := by
 refine (jD (A := cVa) (B := cVa) (g := qA) (xb _) (je _ _)).trans ?_
 have : jm (uH 1) (wC 1 0) = true := by kernel_rfl
 unfold qA
 rw [this]
theorem tq_b3 {Q : LExit → AFr → zb → Prop} {fr : AFr} {G : zb} {T : List Tb} {κ : Nat → Int} {n : Nat} (hn : n ≤ 10) (hT : ∀ (i : Nat) t, T[i]? = some t → ∃ p D, TabK ν κ p n t D) (hord : ∀ (i : Nat) t u, T[i]? = some t → T[i + 1]? = some u → yU .geq t.f u.f = some (.bool false)) (hl : T.length ≤ 2)
  (f11 : fr 11 = .p (.lst (T.map cTb.enc))) (f13 : fr 13 = .p (.int .i64 0))
  (hQ : ∀ fr', (∀ j, j < 13 → fr' j = fr j) → Q .normal fr' G) : vc Tq24 lf4_B3 Q fr G := by
 obtain ⟨TL, hTL⟩ : ∃ x, x = T.map cTb.enc := ⟨_, rfl⟩
 have htl : TL.length = T.length := by rw [hTL]; simp
 have f11' := f11
 rw [← hTL] at f11
 simp only [lf4_B3, zr]
 refine zo (fun fr' G' => G' = G ∧ ∃ j : Nat, j ≤ T.length ∧ (∀ m, m < 13 → fr' m = fr m) ∧ fr' 13 = .p (.int .i64 j)) (fun fr' _ => T.length - zA (fr' 13)) ⟨rfl, 0, by omega, fun _ _ => rfl, f13⟩ ?_
 rintro fr1 G1 ⟨rfl, j, hj, hfr, k13⟩
 have k11 := (hfr 11 (by omega)).trans f11
 by_cases h : j < T.length
 ·have hw := zs (i := j) (by omega)
  obtain ⟨t, ht⟩ : ∃ x, T[j]? = some x := ⟨_, List.getElem?_eq_getElem h⟩
  obtain ⟨p, D, hK⟩ := hT j t ht
  have hgT : TL[j]? = some (cTb.enc t) := by rw [hTL, List.getElem?_map, ht]; rfl
  rw [ut, hK.els] at hgT
  have hS := zer_same
  have hv : sp2 cI cI aV [.int .i64 1, .int .i64 0] = some (wC 1 0).enc := (jD (A := cI) (B := cI) (x := 1) (y := 0) trivial trivial).trans (if_pos (by omega))
  have hve : ∀ v : Va, v.enc = .agg [.int .i64 v.k, .bool v.b, .bool v.x.s, .lst (v.x.n.map u64), .lst (v.x.d.map u64), .int .i64 v.el] := fun _ => rfl
  rw [hve, hve] at hS
  rw [hve] at hv
  obtain ⟨ZV, hZV⟩ : ∃ x, x = uH 1 := ⟨_, rfl⟩
  obtain ⟨VV1, hVV⟩ : ∃ x, x = wC 1 0 := ⟨_, rfl⟩
  rw [← hZV] at hgT hS
  rw [← hVV] at hS hv
  obtain ⟨LR, hLR⟩ : ∃ x, x = t.rows.map cRw.enc := ⟨_, rfl⟩
  rw [← hLR] at hgT
  have hj2 : j = 0 ∨ j = 1 := by omega
  have w1 : IntKind.i64.wrap 1 = 1 := by decide
  have w2 : IntKind.i64.wrap 2 = 2 := by decide
  rcases hj2 with rfl | rfl
  ·simp [k11, k13, h, htl, hgT, hS, hv, vG, wh, -getElem?_pos]
   refine tq_b2 ht hK.rows hK.nd (by have := hK.few; omega) (by simp [k11, hTL]) (by simp [k13]) (by simp) fun fr2 h2 => ?_
   have k23 : fr2 13 = .p (.int .i64 0) := by rw [h2 13 (by omega)]; simp [k13]
   simp [k23, w1, -getElem?_pos]
   refine ⟨⟨1, h, fun m hm => ?_, rfl⟩, by simp [zA]; omega⟩
   rw [if_neg (by omega), if_neg (by omega), if_neg (by omega), h2 m (by omega), ← hfr m hm]
   simp only [upd]
   repeat rw [if_neg (by omega)]
  ·obtain ⟨t0, ht0⟩ : ∃ x, T[0]? = some x := ⟨_, List.getElem?_eq_getElem (by omega)⟩
   have hg0 : TL[0]? = some (cTb.enc t0) := by rw [hTL, List.getElem?_map, ht0]; rfl
   have hb := hord 0 t0 t ht0 ht
   rw [ut] at hg0
   have w0 : IntKind.i64.wrap 0 = 0 := by decide
   have h' : (1 : Int) < T.length := by omega
   have h'' : 0 < T.length := by omega
   simp [k11, k13, h', htl, hgT, hg0, hb, w0, hS, hv, vG, wh, -getElem?_pos]
   refine tq_b2 ht hK.rows hK.nd (by have := hK.few; omega) (by simp [k11, hTL]) (by simp [k13]) (by simp) fun fr2 h2 => ?_
   have k23 : fr2 13 = .p (.int .i64 1) := by rw [h2 13 (by omega)]; simp [k13]
   simp [k23, w2, -getElem?_pos]
   refine ⟨⟨2, h, fun m hm => ?_, rfl⟩, by simp [zA]; omega⟩
   rw [if_neg (by omega), if_neg (by omega), if_neg (by omega), h2 m (by omega), ← hfr m hm]
   simp only [upd]
   repeat rw [if_neg (by omega)]
 ·have hjk : j = T.length := by omega
  subst hjk
  simp [k11, k13, htl, -getElem?_pos]
  refine hQ _ fun m hm => ?_
  rw [← hfr m hm]
  simp only [upd]
  repeat rw [if_neg (by omega)]
end
end Go.Proofs.YtgbjjikaenlkmaaGreat

namespace Go.Proofs.YtgbjjikaenlkmaaGreat
open Go Go.Abs Go.Limbs
variable {base : Prot}
set_option maxRecDepth 20000
attribute [local irreducible] vc
attribute [local simp] za zh freezeL fuel zk u64 au
def SameG (G G' : zb) : Prop := G'.length = G.length ∧ ∀ (k : Nat) (e : Ent), G[k]? = some e → ∃ fz, G'[k]? = some ⟨e.size, e.ver, fz, e.elems, e.ty⟩
theorem SameG.refl (G : zb) : SameG G G := ⟨rfl, fun k e h => ⟨e.froz, h⟩⟩
theorem SameG.trans {G H K : zb} (h : SameG G H) (h' : SameG H K) : SameG G K := ⟨h'.1.trans h.1, fun k e he => by
 obtain ⟨f1, h1⟩ := h.2 k e he
 obtain ⟨f2, h2⟩ := h'.2 k _ h1
 exact ⟨f2, h2⟩⟩
theorem SameG.one (G : zb) (j : Nat) : SameG G (freeze1 G j) := by
 refine ⟨dL G j, fun k e he => ?_⟩
 unfold freeze1
 cases hj : G[j]? with
 | none => exact ⟨e.froz, he⟩
 | some e' =>
  by_cases hk : j = k
  ·subst hk
   rw [he] at hj
   cases hj
   exact ⟨true, List.getElem?_set_self (List.getElem?_eq_some_iff.1 he).1⟩
  ·exact ⟨e.froz, by simp only [List.getElem?_set_ne hk]; exact he⟩
theorem SameG.many : ∀ (tl : List Nat) (G : zb), SameG G (List.foldl freeze1 G tl)
 | [], G => SameG.refl G
 | j :: tl, G => (SameG.one G j).trans (SameG.many tl (freeze1 G j))
def VAF (sz : Nat) (ty : TypeId) (G : zb) (v : AVal) (P : List PVal) : Prop := (P = [] ∧ v = .tight []) ∨ ∃ k w fz, v = .own k 0 P.length w ∧ G[k]? = some ⟨sz, w, fz, P.map .p, ty⟩
def MdF (G : zb) (v : AVal) (n : Nat) : Prop := ∃ ps : List Nat, ps.length = n ∧ ((n = 0 ∧ v = .tight []) ∨ ∃ k w fz, v = .own k 0 n w ∧ G[k]? = some ⟨3, w, fz, yC ps 0, 26⟩)
def VAT (sz : Nat) (ty : TypeId) (G : zb) (v : AVal) (P : List PVal) : Prop := (P = [] ∧ v = .tight []) ∨ ∃ k w, v = .own k 0 P.length w ∧ G[k]? = some ⟨sz, w, true, P.map .p, ty⟩
theorem fz_one {G : zb} {j k : Nat} {e : Ent} (h : G[k]? = some e) (hf : e.froz = true ∨ j = k) : ∃ e', (freeze1 G j)[k]? = some e' ∧ e'.froz = true := by
 unfold freeze1
 cases hj : G[j]? with
 | none =>
  rcases hf with hf | hf
  ·exact ⟨e, h, hf⟩
  ·subst hf; rw [h] at hj; cases hj
 | some e' =>
  by_cases hk : j = k
  ·subst hk
   exact ⟨_, List.getElem?_set_self (List.getElem?_eq_some_iff.1 h).1, rfl⟩
  ·rcases hf with hf | hf
   ·exact ⟨e, by simp only [List.getElem?_set_ne hk]; exact h, hf⟩
   ·exact absurd hf hk
theorem xT : ∀ (tl : List Nat) {G : zb} {k : Nat} {e : Ent}, G[k]? = some e → (e.froz = true ∨ k ∈ tl) → ∃ e', (List.foldl freeze1 G tl)[k]? = some e' ∧ e'.froz = true
 | [], G, k, e, h, hf => by
  rcases hf with hf | hf
  ·exact ⟨e, h, hf⟩
  ·cases hf
 | j :: tl, G, k, e, h, hf => by
  by_cases hj : e.froz = true ∨ j = k
  ·obtain ⟨e', h1, h2⟩ := fz_one h hj
   exact xT tl h1 (.inl h2)
  ·obtain ⟨f, h1⟩ := (SameG.one G j).2 k e h
   refine xT tl h1 (.inr ?_)
   rcases hf with hf | hf
   ·exact absurd (.inl hf) hj
   ·rcases List.mem_cons.1 hf with rfl | hf
    ·exact absurd (.inr rfl) hj
    ·exact hf
theorem VAF.fz {sz : Nat} {ty : TypeId} {G : zb} {v : AVal} {P : List PVal} (tl : List Nat) (h : VAF sz ty G v P) (hm : ∀ k o n w, v = .own k o n w → k ∈ tl) : VAT sz ty (List.foldl freeze1 G tl) v P := by
 rcases h with h | ⟨k, w, fz, h1, h2⟩
 ·exact .inl h
 ·obtain ⟨f, h3⟩ := (SameG.many tl G).2 k _ h2
  obtain ⟨e', h4, h5⟩ := xT tl h2 (.inr (hm _ _ _ _ h1))
  rw [h3] at h4
  cases h4
  simp only at h5
  subst h5
  exact .inr ⟨k, w, h1, h3⟩
theorem VAF.same {sz : Nat} {ty : TypeId} {G G' : zb} {v : AVal} {P : List PVal} (h : VAF sz ty G v P) (hs : SameG G G') : VAF sz ty G' v P := by
 rcases h with h | ⟨k, w, fz, h1, h2⟩
 ·exact .inl h
 ·obtain ⟨f, h3⟩ := hs.2 k _ h2
  exact .inr ⟨k, w, f, h1, h3⟩
theorem VAF.more {sz : Nat} {ty : TypeId} {G : zb} {v : AVal} {P : List PVal} (h : VAF sz ty G v P) (Z : zb) : VAF sz ty (G ++ Z) v P := by
 rcases h with h | ⟨k, w, fz, h1, h2⟩
 ·exact .inl h
 ·exact .inr ⟨k, w, fz, h1, by rw [List.getElem?_append_left (List.getElem?_eq_some_iff.1 h2).1]; exact h2⟩
theorem MdF.same {G G' : zb} {v : AVal} {n : Nat} (h : MdF G v n) (hs : SameG G G') : MdF G' v n := by
 obtain ⟨ps, hl, h⟩ := h
 refine ⟨ps, hl, ?_⟩
 rcases h with h | ⟨k, w, fz, h1, h2⟩
 ·exact .inl h
 ·obtain ⟨f, h3⟩ := hs.2 k _ h2
  exact .inr ⟨k, w, f, h1, h3⟩
theorem MdF.more {G : zb} {v : AVal} {n : Nat} (h : MdF G v n) (Z : zb) : MdF (G ++ Z) v n := by
 obtain ⟨ps, hl, h⟩ := h
 refine ⟨ps, hl, ?_⟩
 rcases h with h | ⟨k, w, fz, h1, h2⟩
 ·exact .inl h
 ·exact .inr ⟨k, w, fz, h1, by rw [List.getElem?_append_left (List.getElem?_eq_some_iff.1 h2).1]; exact h2⟩
theorem VAF.res {sz : Nat} {ty : TypeId} {G : zb} {v : AVal} {P : List PVal} (h : VAF sz ty G v P) : zj G 8 v = some (.lst P) := by
 rcases h with ⟨rfl, rfl⟩ | ⟨k, w, fz, rfl, hk⟩
 ·rfl
 ·have hl : (P.map AVal.p).length = P.length := by simp
  have ht : ((P.map AVal.p).take P.length) = P.map AVal.p := List.take_of_length_le (by omega)
  unfold zj
  simp only [hk]
  rw [if_pos ⟨trivial, by rw [hl]; omega⟩, List.drop_zero, ht, wM]
theorem VAF.tou {sz : Nat} {ty : TypeId} {G : zb} {v : AVal} {P : List PVal} (h : VAF sz ty G v P) : zh G 8 v = match v with | .own k _ _ _ => [k] | _ => [] := by
 rcases h with ⟨rfl, rfl⟩ | ⟨k, w, fz, rfl, hk⟩
 ·rfl
 ·have hl : (P.map AVal.p).length = P.length := by simp
  have ht : ((P.map AVal.p).take P.length) = P.map AVal.p := List.take_of_length_le (by omega)
  unfold zh
  simp only [hk]
  rw [List.drop_zero, ht, yl]
section
variable {ν : Int → Int} {κ : Nat → Int}
theorem fin_find {n i : Nat} {T : List Tb} (h : FinT ν κ n T) (hi : i < n) : ∃ t D, kY (nmI i) T = some t ∧ TabK ν κ i n t D := by
 have tr : ∀ {p q : Nat} {t : Tb} {D : List Int}, p % 2 = q % 2 → TabK ν κ p n t D → TabK ν κ q n t D := fun {p q t D} hpq h => ⟨by rw [h.f]; unfold nmI; rw [hpq], h.els, by rw [h.rows, rwI_par ν hpq], h.ne, h.nd, h.few, h.rng, fun j hj hq => h.has j hj (by omega)⟩
 have e01 : ¬ nmI 1 = nmI 0 := fun h => nm01 h.symm
 rcases h with ⟨h, -⟩ | ⟨h, t, D, rfl, ht⟩ | ⟨h, t, D, u, E, rfl, ht, hu⟩
 ·omega
 ·have hi0 : i = 0 := by omega
  subst hi0
  exact ⟨t, D, by simp [kY, ht.f], ht⟩
 ·rcases Nat.mod_two_eq_zero_or_one i with hp | hp
  ·refine ⟨t, D, ?_, tr (by omega) ht⟩
   simp only [kY, hu.f, ht.f, nm_even hp]
   rw [if_neg e01, if_pos trivial]
  ·refine ⟨u, E, ?_, tr (by omega) hu⟩
   simp only [kY, hu.f, iV hp]
   rw [if_pos trivial]
theorem fin_wf {n : Nat} {T : List Tb} (h : FinT ν κ n T) : cTb.wfL T := by
 have key : ∀ {p : Nat} {t : Tb} {D : List Int}, TabK ν κ p n t D → cTb.wf t := fun {p t D} h => ⟨by
  rw [h.rows]
  intro r hr
  obtain ⟨k, -, rfl⟩ := List.mem_map.1 hr
  exact ⟨fun x hx => by cases List.mem_singleton.1 hx; exact je _ _, je _ _⟩, by rw [h.els]; exact xb _⟩
 intro x hx
 rcases h with ⟨-, rfl⟩ | ⟨-, t, D, rfl, ht⟩ | ⟨-, t, D, u, E, rfl, ht, hu⟩
 ·cases hx
 ·cases List.mem_singleton.1 hx; exact key ht
 ·simp only [List.mem_cons, List.not_mem_nil, or_false] at hx
  rcases hx with rfl | rfl
  ·exact key hu
  ·exact key ht
theorem fin_apply {n i : Nat} {t : Tb} {D : List Int} (h : TabK ν κ i n t D) (hi : i < n) (wt : cTb.wf t) : sApp [cTb.enc t, .lst [(wC 2 (κ i)).enc]] = some (vaI ν i (κ i)).enc := by
 have h1 : cVa.dec (wC 2 (κ i)).enc = some (wC 2 (κ i)) := cVa.de _ (je _ _)
 simp only [sApp, cTb.de t wt, h1]
 rw [if_pos (by rw [h.rows, List.all_eq_true]; intro r hr; obtain ⟨k, -, rfl⟩ := List.mem_map.1 hr; rfl)]
 rw [h.rows, sh ν i (κ i) t.els D (h.has i hi rfl)]
end
end Go.Proofs.YtgbjjikaenlkmaaGreat

namespace Go.Proofs.YtgbjjikaenlkmaaGreat
open Go Go.Abs Go.Limbs
variable {base : Prot}
set_option maxRecDepth 20000
attribute [local irreducible] vc
attribute [local simp] za zh freezeL fuel zk u64 au
theorem tq_b4 {Q : LExit → AFr → zb → Prop} {fr : AFr} {G : zb} {ν : Int → Int} {κ : Nat → Int} {n : Nat} {T : List Tb} {vm vg : AVal} (hn : n ≤ 10) (hF : FinT ν κ n T)
  (hm : MdF G vm n) (hg : VAT 7 38 G vg ((gvL ν κ n).map cGv.enc)) (f5 : fr 5 = vm) (f6 : fr 6 = vg) (f11 : fr 11 = .p (.lst (T.map cTb.enc))) (f16 : fr 16 = .p (.int .i64 0))
  (hQ : ∀ fr' G', Q .normal fr' G') : vc Tq24 lf4_B4 Q fr G := by
 have wT := fin_wf hF
 simp only [lf4_B4, zr]
 refine zo (fun fr' G' => ∃ i : Nat, i ≤ n ∧ MdF G' vm n ∧ VAT 7 38 G' vg ((gvL ν κ n).map cGv.enc) ∧ fr' 5 = vm ∧ fr' 6 = vg ∧ fr' 11 = .p (.lst (T.map cTb.enc)) ∧ fr' 16 = .p (.int .i64 i)) (fun fr' _ => n - zA (fr' 16)) ⟨0, by omega, hm, hg, f5, f6, f11, f16⟩ ?_
 rintro fr1 G1 ⟨i, hi, hm1, hg1, k5, k6, k11, k16⟩
 obtain ⟨ps, hpl, hms⟩ := hm1
 by_cases h : i < n
 ·rcases hms with ⟨h0, -⟩ | ⟨k, w, fz, hvm, hk⟩
  ·omega
  have hw := zs (i := i) (by omega)
  have w1 : IntKind.i64.wrap (2 * (i : Int)) = 2 * i := IntWalk.i64_in _ (by omega)
  have w2 : IntKind.i64.wrap (2 * (i : Int) + 1) = 2 * i + 1 := IntWalk.i64_in _ (by omega)
  obtain ⟨p, hp⟩ : ∃ x, ps[i]? = some x := ⟨_, List.getElem?_eq_getElem (by omega)⟩
  have hget := mdsA_at ps 0 i p hp
  rw [Nat.zero_add] at hget
  have hml := br ps 0
  rw [hpl] at hml
  obtain ⟨t, D, hfi, hK⟩ := fin_find hF h
  have htm : t ∈ T := by
   have : ∀ (nm : List UInt8) (l : List Tb), kY nm l = some t → t ∈ l := fun nm l => by
    induction l with
    | nil => intro h; cases h
    | cons a r ih =>
     intro h
     unfold kY at h
     split at h
     ·cases h; simp
     ·exact List.mem_cons_of_mem _ (ih h)
   exact this _ _ hfi
  have hfind : tj [.agg [.lst (T.map cTb.enc)], .str (nmI i)] = some (.tup [cTb.enc t, .bool true]) := by
   simp only [tj, cTb.deL T wT, hfi]
  have happ := fin_apply hK h (wT t htm)
  obtain ⟨l1, l2⟩ := tM ν κ n i h
  have hlk1 : sp2 cGv.lst cI di [.lst ((gvL ν κ n).map cGv.enc), .int .i64 (2 * i)] = some (vaI ν i (κ i)).enc := (jD (A := cGv.lst) (B := cI) (x := gvL ν κ n) (y := 2 * i) (xQ ν κ n) trivial).trans (by unfold di; rw [l1])
  have hlk2 : sp2 cGv.lst cI di [.lst ((gvL ν κ n).map cGv.enc), .int .i64 (2 * i + 1)] = some (wC 2 (κ i)).enc := (jD (A := cGv.lst) (B := cI) (x := gvL ν κ n) (y := 2 * i + 1) (xQ ν κ n) trivial).trans (by unfold di; rw [l2])
  have hS : sp2 cVa cVa qA [(vaI ν i (κ i)).enc, (vaI ν i (κ i)).enc] = some (.bool true) := (jD (A := cVa) (B := cVa) (g := qA) (je _ _) (je _ _)).trans (by unfold qA; rw [pH])
  have hve : ∀ v : Va, v.enc = .agg [.int .i64 v.k, .bool v.b, .bool v.x.s, .lst (v.x.n.map u64), .lst (v.x.d.map u64), .int .i64 v.el] := fun _ => rfl
  rw [ut] at hfind happ
  rw [hve, hve] at happ
  rw [hve] at hlk1 hlk2 hS
  obtain ⟨V1, hV1⟩ : ∃ x, x = vaI ν i (κ i) := ⟨_, rfl⟩
  obtain ⟨V2, hV2⟩ : ∃ x, x = wC 2 (κ i) := ⟨_, rfl⟩
  rw [← hV1] at happ hlk1 hS
  rw [← hV2] at happ hlk2
  obtain ⟨GL, hGL⟩ : ∃ x, x = (gvL ν κ n).map cGv.enc := ⟨_, rfl⟩
  rw [← hGL] at hlk1 hlk2 hg1
  obtain ⟨TL, hTL⟩ : ∃ x, x = T.map cTb.enc := ⟨_, rfl⟩
  rw [← hTL] at k11 hfind
  obtain ⟨LR, hLR⟩ : ∃ x, x = t.rows.map cRw.enc := ⟨_, rfl⟩
  rw [← hLR] at hfind happ
  obtain ⟨NI, hNI⟩ : ∃ x, x = nmI i := ⟨_, rfl⟩
  have hmd : mdA i p = .agg [.p (.int .i64 (2 * i)), .p (.str NI), .own p 0 1 0] := by rw [hNI]; rfl
  rw [hmd] at hget
  rw [← hNI] at hfind
  obtain ⟨MA, hMA⟩ : ∃ x, x = yC ps 0 := ⟨_, rfl⟩
  rw [← hMA] at hget hml hk
  have hGn : GL ≠ [] := fun he => by
   have h1 := nV ν κ n
   have h2 : GL.length = 2 * n := by rw [hGL]; simpa using h1
   rw [he] at h2
   simp at h2
   omega
  obtain ⟨kg, wg, hvg, hkg⟩ : ∃ k w, vg = .own k 0 GL.length w ∧ G1[k]? = some ⟨7, w, true, GL.map .p, 38⟩ := by
   rcases hg1 with ⟨h1, -⟩ | h1
   ·exact absurd h1 hGn
   ·exact h1
  have hkgl := (List.getElem?_eq_some_iff.1 hkg).1
  have hAg : ∀ Z, (G1 ++ Z)[kg]? = some ⟨7, wg, true, GL.map .p, 38⟩ := fun Z => by rw [List.getElem?_append_left hkgl]; exact hkg
  have r1 : ∀ Z, zj (G1 ++ Z) 8 vg = some (.lst GL) := fun Z => VAF.res (sz := 7) (ty := 38) (.inr ⟨kg, wg, true, hvg, hAg Z⟩)
  have r2 : ∀ Z, zh (G1 ++ Z) 8 vg = [kg] := fun Z => by
   rw [hvg]
   exact VAF.tou (sz := 7) (ty := 38) (P := GL) (.inr ⟨kg, wg, true, rfl, hAg Z⟩)
  have r3 : ∀ Z, freeze1 (G1 ++ Z) kg = G1 ++ Z := fun Z => by
   unfold freeze1
   rw [hAg]
   exact set_self (hAg Z)
  have r4 : ∀ x y : Ent, freeze1 (G1 ++ [x, y]) (G1.length + 1) = G1 ++ [x, ⟨y.size, y.ver, true, y.elems, y.ty⟩] := fun x y => by
   unfold freeze1
   rw [jM]
   simp only [List.getElem?_cons_succ, List.getElem?_cons_zero]
   rw [setT]
   rfl
  simp [k5, k11, k16, hvm, hk, hget, h, hfind, vG, wh, z5, -getElem?_pos, List.getElem?_cons_zero, List.getElem?_cons_succ]
  rw [zw]
  refine ⟨[], ?_⟩
  simp [k5, k6, k11, k16, hw, w1, w2, hlk1, hlk2, happ, hS, r1, r2, r3, r4, zO, vG, wh, jM, z5, -getElem?_pos, List.getElem?_cons_zero, List.getElem?_cons_succ]
  refine ⟨fun k' hk' => ?_, ⟨i + 1, h, ?_, ?_, hvm, hTL, by simp⟩, by simp [zA]; omega⟩
  ·obtain ⟨x, hx⟩ : ∃ x : Ent, x = ⟨8, 0, false, [.p (.agg [.str t.f, .lst LR, .int .i64 t.els.k, .bool t.els.b, .bool t.els.x.s, .lst (t.els.x.n.map u64), .lst (t.els.x.d.map u64), .int .i64 t.els.el])], 54⟩ := ⟨_, rfl⟩
   rw [← hx]
   have happ2 : ∀ y : Ent, G1 ++ [x, y] = (G1 ++ [x]) ++ [y] := fun y => by simp
   rw [happ2, List.getElem?_append_left (by rw [List.length_append]; exact hk')]
  ·rw [← hvm]
   exact MdF.more ⟨ps, hpl, .inr ⟨k, w, fz, hvm, by rw [← hMA]; exact hk⟩⟩ _
  ·rw [← hGL]
   exact .inr ⟨kg, wg, hvg, hAg _⟩
 ·have hin : i = n := by omega
  subst hin
  rcases hms with ⟨h0, hv⟩ | ⟨k, w, fz, hvm, hk⟩
  ·subst h0
   simp [k5, k16, hv]
   exact hQ _ _
  ·have hml := br ps 0
   rw [hpl] at hml
   simp [k5, k16, hvm, hk, -getElem?_pos]
   exact hQ _ _
theorem mds_res {G : zb} : ∀ (ps : List Nat) (i : Nat), (∀ (j p : Nat), ps[j]? = some p → G[p]? = some ⟨1, 0, false, [.p (.int .i64 (2 * ((i + j : Nat) : Int) + 1))], 3⟩) →
  zN (zj G 7) (yC ps i) = some ((List.range' i ps.length).map fun j => cMd.enc (mdI j))
 | [], i, _ => rfl
 | p :: r, i, h => by
  have h1 := h 0 p rfl
  have h2 := mds_res r (i + 1) fun j q hq => by
   have := h (j + 1) q (by simpa using hq)
   rw [show i + 1 + j = i + (j + 1) by omega]
   exact this
  have h3 : zj G 7 (mdA i p) = some (cMd.enc (mdI i)) := by
   simp [mdA, zj, zN, h1, cMd, mdI, cI]
  simp only [yC, zN, h3, h2, List.length_cons, List.range'_succ, List.map_cons]
theorem MdIn.res {G : zb} {v : AVal} {n : Nat} (h : MdIn G v n) : zj G 8 v = some (.lst ((mdL n).map cMd.enc)) := by
 obtain ⟨ps, hl, hp, h⟩ := h
 rcases h with ⟨rfl, rfl⟩ | ⟨k, w, rfl, hk⟩
 ·rfl
 ·have h1 := br ps 0
  have ht : (yC ps 0).take n = yC ps 0 := List.take_of_length_le (by omega)
  have hr := mds_res ps 0 fun j p hj => by rw [Nat.zero_add]; exact hp j p hj
  unfold zj
  simp only [hk]
  rw [if_pos ⟨trivial, by omega⟩, List.drop_zero, ht, hr, hl]
  simp only [mdL, List.range_eq_range', List.map_map, Function.comp_def]
theorem MdIn.any {G : zb} {v : AVal} {n : Nat} (h : MdIn G v n) : MdF G v n := by
 obtain ⟨ps, hl, hp, h⟩ := h
 refine ⟨ps, hl, ?_⟩
 rcases h with h | ⟨k, w, h1, h2⟩
 ·exact .inl h
 ·exact .inr ⟨k, w, false, h1, h2⟩
theorem VA.any {sz : Nat} {ty : TypeId} {G : zb} {v : AVal} {P : List PVal} (h : VA sz ty G v P) : VAF sz ty G v P := by
 rcases h with h | ⟨k, w, h1, h2⟩
 ·exact .inl h
 ·exact .inr ⟨k, w, false, h1, h2⟩
theorem VAF.tou2 {sz : Nat} {ty : TypeId} {G : zb} {v : AVal} {P : List PVal} {k o n w : Nat} (h : VAF sz ty G v P) (hv : v = .own k o n w) : zh G 8 v = [k] := by
 subst hv
 exact h.tou
theorem fin_len {ν : Int → Int} {κ : Nat → Int} {n : Nat} {T : List Tb} (h : FinT ν κ n T) : T.length = min n 2 := by
 rcases h with ⟨rfl, rfl⟩ | ⟨rfl, t, D, rfl, -⟩ | ⟨h, t, D, u, E, rfl, -, -⟩
 ·rfl
 ·rfl
 ·simp; omega
theorem fin_tab {ν : Int → Int} {κ : Nat → Int} {n : Nat} {T : List Tb} (h : FinT ν κ n T) : (∀ (i : Nat) t, T[i]? = some t → ∃ p D, TabK ν κ p n t D) ∧ ∀ (i : Nat) t u, T[i]? = some t → T[i + 1]? = some u → yU .geq t.f u.f = some (.bool false) := by
 rcases h with ⟨-, rfl⟩ | ⟨-, t, D, rfl, ht⟩ | ⟨-, t, D, u, E, rfl, ht, hu⟩
 ·exact ⟨fun i t h => by simp at h, fun i t u h => by simp at h⟩
 ·refine ⟨fun i t h => ?_, fun i t u h h' => by simp at h'⟩
  have := List.mem_of_getElem? h
  cases List.mem_singleton.1 this
  exact ⟨_, _, ht⟩
 ·refine ⟨fun i t h => ?_, fun i a b h h' => ?_⟩
  ·have := List.mem_of_getElem? h
   simp only [List.mem_cons, List.not_mem_nil, or_false] at this
   rcases this with rfl | rfl
   ·exact ⟨_, _, hu⟩
   ·exact ⟨_, _, ht⟩
  ·match i, h, h' with
   | 0, h, h' =>
    cases h
    cases h'
    rw [hu.f, ht.f]
    rfl
   | i + 1, h, h' => simp at h'
def bP : List PVal → Option PVal
 | [.lst a, .lst b] => match ju cI.dec a, ju cI.dec b with
  | some _, some _ => some (.bool true)
  | _, _ => none
 | _ => none
theorem xh : zH Tryz.prog base 4 (za bP) := by
 refine zd zE Tq24_ok ze low4 fun args z hs hf => ?_
 unfold bP at hs
 split at hs
 case h_2 => cases hs
 rename_i pa pb
 split at hs
 case h_2 => cases hs
 rename_i al vl h1 h2
 cases hs
 obtain ⟨rfl, -⟩ := cI.edL _ _ h1
 obtain ⟨rfl, -⟩ := cI.edL _ _ h2
 refine ⟨by simp [lf4], ?_⟩
 have hI : ∀ l : List Int, l.map cI.enc = iL l := fun _ => rfl
 rw [hI, hI]
 have q1 := xP al
 have q2 := xP vl
 obtain ⟨c1, hc1⟩ : ∃ t, t = iL al := ⟨_, rfl⟩
 obtain ⟨c2, hc2⟩ : ∃ t, t = iL vl := ⟨_, rfl⟩
 rw [← hc1] at q1 ⊢
 rw [← hc2] at q2 ⊢
 by_cases n0 : 10 < al.length
 ·have d0 : (10 : Int) < al.length := by omega
  simp [lf4, q1, d0, oC, vG, wh]
 have d0 : ¬ (10 : Int) < al.length := by omega
 by_cases n1 : vl.length < al.length
 ·have d1 : (vl.length : Int) < al.length := by omega
  simp [lf4, q1, q2, d0, d1, oC, vG, wh]
 have d1 : ¬ (vl.length : Int) < al.length := by omega
 by_cases n2 : 20 < vl.length
 ·have d2 : (20 : Int) < vl.length := by omega
  simp [lf4, q1, q2, d0, d1, d2, oC, vG, wh]
 have d2 : ¬ (20 : Int) < vl.length := by omega
 simp [lf4, q1, q2, d0, d1, d2]
 refine bq_all (al := al) (vl := vl) (by omega) (by omega) (by omega) (by simp [hc1]) (by simp [hc2]) (by simp) (by simp) (by simp) (by simp) fun fr1 G1 hfr hm hg hv => ?_
 obtain ⟨T, hF, hres⟩ := tabs_res (κ := dr al) (n := al.length) (by omega) (xG vl)
 have hr1 := hm.res
 have hr2 := hg.any.res
 have hr3 := hv.any.res
 obtain ⟨tm, htm⟩ : ∃ t, t = zh G1 8 (fr1 5) := ⟨_, rfl⟩
 obtain ⟨tg, htg⟩ : ∃ t, t = zh G1 8 (fr1 6) := ⟨_, rfl⟩
 obtain ⟨tv, htv⟩ : ∃ t, t = zh G1 8 (fr1 7) := ⟨_, rfl⟩
 have hcall : sp3 cMd.lst cVr.lst cGv.lst px [.lst ((mdL al.length).map cMd.enc), .lst ((vrL al.length).map cVr.enc), .lst ((gvL (nuI vl) (dr al) al.length).map cGv.enc)] = some (.tup [.lst (T.map cTb.enc), .int .i64 0]) :=
  (xj (A := cMd.lst) (B := cVr.lst) (C := cGv.lst) (fun _ _ => trivial) (fun _ _ => trivial) (xQ _ _ _)).trans hres
 obtain ⟨ML, hML⟩ : ∃ t, t = (mdL al.length).map cMd.enc := ⟨_, rfl⟩
 obtain ⟨VL, hVL⟩ : ∃ t, t = (vrL al.length).map cVr.enc := ⟨_, rfl⟩
 obtain ⟨GL, hGL⟩ : ∃ t, t = (gvL (nuI vl) (dr al) al.length).map cGv.enc := ⟨_, rfl⟩
 obtain ⟨TL, hTL⟩ : ∃ t, t = T.map cTb.enc := ⟨_, rfl⟩
 have htl : TL.length = T.length := by rw [hTL]; simp
 rw [← hML] at hr1 hcall
 rw [← hVL] at hr3 hcall
 rw [← hGL] at hr2 hcall
 rw [← hTL] at hcall
 have k0 : fr1 0 = .p (.lst c1) := by rw [hfr 0 (by omega)]; simp
 have hne : ((T.length : Int) != if 2 < (al.length : Int) then 2 else (al.length : Int)) = false := by
  have := fin_len hF
  simp only [bne_eq_false_iff_eq]
  split <;> omega
 simp [hr1, hr2, hr3, ← htm, ← htg, ← htv, hcall, htl, k0, q1, hne, vG, wh]
 obtain ⟨G2, hG2⟩ : ∃ t, t = List.foldl freeze1 (List.foldl freeze1 (List.foldl freeze1 G1 tm) tv) tg := ⟨_, rfl⟩
 have hG2' : G2 = List.foldl freeze1 G1 (tm ++ tv ++ tg) := by rw [hG2, List.foldl_append, List.foldl_append]
 have hm2 : MdF G2 (fr1 5) al.length := by rw [hG2']; exact hm.any.same (SameG.many _ _)
 have hg2 : VAT 7 38 G2 (fr1 6) GL := by
  rw [hG2']
  have hga : VAF 7 38 G1 (fr1 6) GL := by rw [hGL]; exact hg.any
  refine VAF.fz _ hga fun k o n w hk => List.mem_append_right _ ?_
  rw [htg, hga.tou2 hk]
  simp
 rw [hGL] at hg2
 rw [← hG2]
 obtain ⟨hT, hord⟩ := fin_tab hF
 refine tq_b3 (n := al.length) (T := T) (by omega) hT hord (by have := fin_len hF; omega) (by simp [hTL]) (by simp) fun fr2 e2 => ?_
 have e5 : fr2 5 = fr1 5 := by rw [e2 5 (by omega)]; simp
 have e6 : fr2 6 = fr1 6 := by rw [e2 6 (by omega)]; simp
 have e11 : fr2 11 = .p (.lst (T.map cTb.enc)) := by rw [e2 11 (by omega)]; simp [hTL]
 simp
 refine tq_b4 (n := al.length) (T := T) (by omega) hF hm2 hg2 (by simp [e5]) (by simp [e6]) (by simp [e11]) (by simp) fun fr3 G3 => ?_
 simp [oC, vG, wh]
end Go.Proofs.YtgbjjikaenlkmaaGreat
