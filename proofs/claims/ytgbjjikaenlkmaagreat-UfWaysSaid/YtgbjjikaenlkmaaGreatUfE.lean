/-
  What uf.Free and uf.Merge compute. No conditions beyond the lemmas' own hypotheses.
-/
import Derived.Test.YtgbjjikaenlkmaaGreatUfD
set_option linter.unusedSimpArgs false
set_option linter.unnecessarySimpa false
set_option linter.unusedVariables false
set_option linter.constructorNameAsVariable false

/-
 uf: the first value that is not forbidden.
-/
namespace Go.Proofs.YtgbjjikaenlkmaaGreat
open Go Go.Abs Go.Limbs
variable {base : Prot}
set_option maxRecDepth 20000
attribute [local irreducible] vc
attribute [local simp] pureS touchV freezeL fuel shiftV u64 au
def elsOf (s : Int) : List Va → List Int
 | [] => []
 | v :: r => if v.k = s then v.el :: elsOf s r else elsOf s r
def freeGo (els : List Int) (k : Nat) : Nat → Option Nat
 | 0 => none
 | f + 1 => if (k : Int) ∈ els then freeGo els (k + 1) f else some k
theorem freeGo_some {els : List Int} : ∀ {f k n : Nat}, freeGo els k f = some n → k ≤ n ∧ (n : Int) ∉ els ∧ ∀ j, k ≤ j → j < n → (j : Int) ∈ els
 | 0, k, n, h => by cases h
 | f + 1, k, n, h => by
  unfold freeGo at h
  split at h
  ·rename_i hk
   obtain ⟨h1, h2, h3⟩ := freeGo_some h
   refine ⟨by omega, h2, fun j hj hn => ?_⟩
   by_cases he : j = k
   ·subst he; exact hk
   ·exact h3 j (by omega) hn
  ·rename_i hk
   cases h
   exact ⟨Nat.le_refl _, hk, fun j hj hn => by omega⟩
def freeF (s : Int) (vs : List Va) : Option Nat := freeGo (elsOf s vs) 0 1000
def freeP (s : Int) (vs : List Va) : Option PVal := match freeF s vs with | some n => some (Va.enc ⟨s, false, zF, n⟩) | none => none
theorem freeGo_lt {els : List Int} : ∀ {f k n : Nat}, freeGo els k f = some n → n < k + f
 | 0, k, n, h => by cases h
 | f + 1, k, n, h => by
  unfold freeGo at h
  split at h
  ·have := freeGo_lt h; omega
  ·cases h; omega
theorem elsOf_take (s : Int) {vs : List Va} {i : Nat} {v : Va} (h : vs[i]? = some v) (n : Int) : n ∈ elsOf s (vs.take (i + 1)) ↔ (n ∈ elsOf s (vs.take i) ∨ (v.k = s ∧ n = v.el)) := by
 have ap : ∀ (l m : List Va), elsOf s (l ++ m) = elsOf s l ++ elsOf s m := fun l m => by
  induction l with
  | nil => rfl
  | cons a r ih => simp only [List.cons_append, elsOf]; split <;> simp [ih]
 rw [List.take_add_one, h, ap]
 simp only [Option.toList_some, elsOf, List.mem_append]
 split <;> simp [*]
theorem free_ok : FnOk Tryz.prog base 18 (pureS (sp2 cI cVa.lst freeP)) := by
 refine pure_of_vc hmix Tab.none_ok globNone low18 fun args z hs hf => ?_
 obtain ⟨s, vs, -, wv, rfl, hz⟩ := sp2_some hs
 unfold freeP at hz
 cases hn : freeF s vs with
 | none => rw [hn] at hz; cases hz
 | some n =>
 rw [hn] at hz
 cases hz
 unfold freeF at hn
 obtain ⟨-, n1, n2⟩ := freeGo_some hn
 have n3 := freeGo_lt hn
 have hlen := (hf (.lst (vs.map cVa.enc)) (by simp [Cd.lst])).lst.1
 unfold maxLen at hlen
 simp only [List.length_map] at hlen
 refine ⟨by simp [lf18], ?_⟩
 simp only [cI, Cd.lst]
 simp [lf18]
 simp only [lf18_B0, vc_block]
 obtain ⟨c0, hc0⟩ : ∃ c : Ent, c = ⟨6, 0, false, [.agg [.p (.int .i64 0), .p (.bool false), .p (.bool false), .tight [], .tight [], .p (.int .i64 0)]], 35⟩ := ⟨_, rfl⟩
 refine loop_ind (fun fr G => ∃ (i : Nat) (es : List AVal), i ≤ vs.length ∧ G[0]? = some c0 ∧ G[1]? = some ⟨0, 0, false, es, 0⟩ ∧ (∀ x ∈ es, ∃ k z, x = mcell k z) ∧ (∀ m, mfind m es = if m ∈ elsOf s (vs.take i) then some (.bool true) else none) ∧
  fr 0 = .p (.int .i64 s) ∧ fr 4 = .optr 0 0 0 0 ∧ fr 5 = .omap 1 0 ∧ fr 10 = .p (.lst (vs.map cVa.enc)) ∧ fr 11 = .p (.int .i64 vs.length) ∧ fr 12 = .p (.int .i64 i)) (fun fr _ => vs.length - ivar (fr 12))
  ⟨0, [], by omega, by rw [hc0]; rfl, rfl, by simp, by simp [mfind, elsOf], by simp, by simp, by simp, by simp, by simp, by simp⟩ ?_
 rintro fr G ⟨i, es, hi, g0, g1, hes, hmf, f0, f4, f5, f10, f11, f12⟩
 have hG0 : 0 < G.length := (List.getElem?_eq_some_iff.1 g0).1
 have hG1 : 1 < G.length := (List.getElem?_eq_some_iff.1 g1).1
 have hA0 : ∀ Z, (G ++ Z)[0]? = some c0 := fun Z => by rw [List.getElem?_append_left hG0]; exact g0
 have hA1 : ∀ Z, (G ++ Z)[1]? = some ⟨0, 0, false, es, 0⟩ := fun Z => by rw [List.getElem?_append_left hG1]; exact g1
 by_cases h : i < vs.length
 ·obtain ⟨v, hx⟩ : ∃ v, vs[i]? = some v := ⟨_, List.getElem?_eq_getElem h⟩
  have hnx := getE hx
  have hw := wrap_succ (i := i) (by omega)
  have hv : cVa.enc v = .agg [.int .i64 v.k, .bool v.b, .bool v.x.s, .lst (v.x.n.map u64), .lst (v.x.d.map u64), .int .i64 v.el] := rfl
  have htk := elsOf_take s hx
  by_cases hk : v.k = s
  ·have hk' : (v.k == s) = true := by simpa using hk
   have hS0 : ∀ Z x, ((G ++ Z).set 1 x)[0]? = some c0 := fun Z x => by rw [List.getElem?_set_ne (by omega)]; exact hA0 Z
   have hS1 : ∀ Z x, ((G ++ Z).set 1 x)[1]? = some x := fun Z x => List.getElem?_set_self (by simp; omega)
   simp [f0, f4, f5, f10, f11, f12, h, hx, hnx, hv, hk', hA1, getT, getT0, setT, setT0, hw, ivar, -getElem?_pos, List.getElem?_cons_zero, List.getElem?_cons_succ]
   refine ⟨⟨i + 1, by omega, hA0 _, mput v.el (.bool true) es, by rw [hS1], mput_mcell _ _ es hes, fun m => ?_, rfl⟩, by omega⟩
   rw [mfind_mput m v.el _ es hes, hmf m]
   by_cases hm : v.el = m
   ·subst hm
    rw [if_pos rfl, if_pos ((htk v.el).2 (.inr ⟨hk, rfl⟩))]
   ·rw [if_neg hm]
    by_cases hm2 : m ∈ elsOf s (vs.take i)
    ·rw [if_pos hm2, if_pos ((htk m).2 (.inl hm2))]
    ·rw [if_neg hm2, if_neg (fun h => by
      rcases (htk m).1 h with h | ⟨_, h⟩
      ·exact hm2 h
      ·exact hm h.symm)]
  ·have hk' : (v.k == s) = false := by simpa using hk
   simp [f0, f4, f5, f10, f11, f12, h, hx, hnx, hv, hk', hA0, hA1, getT, getT0, setT, setT0, hw, ivar, -getElem?_pos, List.getElem?_cons_zero, List.getElem?_cons_succ]
   refine ⟨⟨i + 1, by omega, hes, fun m => ?_, rfl⟩, by omega⟩
   rw [hmf m]
   by_cases hm2 : m ∈ elsOf s (vs.take i)
   ·rw [if_pos hm2, if_pos ((htk m).2 (.inl hm2))]
   ·rw [if_neg hm2, if_neg (fun h => by
     rcases (htk m).1 h with h | ⟨h, _⟩
     ·exact hm2 h
     ·exact hk h)]
 ·have hil : i = vs.length := by omega
  subst hil
  rw [List.take_of_length_le (Nat.le_refl _)] at hmf
  simp [f0, f4, f5, f11, f12, fillA, getT, getT0, setT, setT0, -getElem?_pos, List.getElem?_cons_zero, List.getElem?_cons_succ]
  simp only [lf18_B1, vc_block]
  obtain ⟨N, hN⟩ : ∃ N, N = G.length := ⟨_, rfl⟩
  refine loop_ind (fun fr G' => ∃ k : Nat, k ≤ n ∧ G'[0]? = some c0 ∧ G'[1]? = some ⟨0, 0, false, es, 0⟩ ∧ G'[N]? = some ⟨6, 0, false, [.agg [.p (.int .i64 s), .p (.bool false), .p (.bool false), .tight [], .tight [], .p (.int .i64 k)]], 35⟩ ∧
   fr 4 = .optr 0 0 0 0 ∧ fr 5 = .omap 1 0 ∧ fr 8 = .optr N 0 0 0) (fun _ G' => n - (match G'[N]? with | some ⟨_, _, _, [.agg [_, _, _, _, _, .p (.int _ k)]], _⟩ => k.toNat | _ => 0)) ⟨0, by omega, hA0 _, hA1 _, by rw [hN]; simp, by simp [f4], by simp [f5], by simp [hN]⟩ ?_
  rintro fr2 G2 ⟨k, hk, q0, q1, qN, k4, k5, k8⟩
  have hNl := (List.getElem?_eq_some_iff.1 qN).1
  have q0l := (List.getElem?_eq_some_iff.1 q0).1
  have hS0 : ∀ x, (G2.set N x)[0]? = some c0 := fun x => by rw [List.getElem?_set_ne (by omega)]; exact q0
  have hS1 : ∀ x, (G2.set N x)[1]? = some ⟨0, 0, false, es, 0⟩ := fun x => by rw [List.getElem?_set_ne (by omega)]; exact q1
  have hSN : ∀ x, (G2.set N x)[N]? = some x := fun x => List.getElem?_set_self hNl
  by_cases hkn : k = n
  ·subst hkn
   have hm : mfind (k : Int) es = none := by rw [hmf, if_neg n1]
   subst hc0
   have hT0 : ∀ x, (G2.set 0 x)[0]? = some x := fun x => List.getElem?_set_self q0l
   simp [k4, k5, k8, q0, q1, qN, hm, zF, Va.enc, Va.cells, hT0, -getElem?_pos, List.getElem?_cons_zero, List.getElem?_cons_succ]
  ·have hm : mfind (k : Int) es = some (.bool true) := by rw [hmf, if_pos (n2 k (by omega) (by omega))]
   have hw := wrap_succ (i := k) (by omega)
   simp [k4, k5, k8, q0, q1, qN, hm, hw, hS0, hS1, hSN, -getElem?_pos, List.getElem?_cons_zero, List.getElem?_cons_succ]
   refine ⟨⟨k + 1, by omega, rfl⟩, ?_⟩
   have hkl : k < n := Nat.lt_of_le_of_ne hk hkn
   exact Nat.sub_lt_sub_left hkl (Nat.lt_succ_self k)
end Go.Proofs.YtgbjjikaenlkmaaGreat

/-
 uf: the shortest way: how far each is.
-/
namespace Go.Proofs.YtgbjjikaenlkmaaGreat
open Go Go.Abs Go.Limbs
variable {base : Prot}
set_option maxRecDepth 20000
attribute [local irreducible] vc
attribute [local simp] pureS touchV freezeL fuel shiftV u64 au
theorem loop_g {T : Tab} {b : LCode} {Q : LExit → AFr → Heap → Prop} (J : Nat → AFr → Heap → Prop) {m0 : Nat} {fr : AFr} {H : Heap} (h0 : J m0 fr H)
  (h : ∀ m fr H, J m fr H → vc T b (roundQ (fun fr H => ∃ m, J m fr H) (fun fr H => least (fun m => J m fr H)) m Q) fr H) : vc T (.loop b) Q fr H :=
 loop_ind (fun fr H => ∃ m, J m fr H) (fun fr H => least (fun m => J m fr H)) ⟨m0, h0⟩ (fun fr H hI => h _ fr H (least_spec hI).1)
theorem round_g {J : Nat → AFr → Heap → Prop} {m m' : Nat} {fr : AFr} {H : Heap} (hj : J m' fr H) (hlt : m' < m) : (∃ m, J m fr H) ∧ least (fun m => J m fr H) < m :=
 ⟨⟨m', hj⟩, Nat.lt_of_le_of_lt ((least_spec ⟨m', hj⟩).2 m' hj) hlt⟩
def IntMap (es : List AVal) : Prop := ∀ x ∈ es, ∃ k d, x = mcell k (.int .i64 d)
def fget (es : List AVal) (n : Int) : Option Int := match mfind n es with
 | some (.int .i64 d) => some d
 | _ => none
theorem fget_find : ∀ {es : List AVal} (n : Int), IntMap es → mfind n es = (fget es n).map (fun d => PVal.int .i64 d)
 | [], n, _ => rfl
 | x :: r, n, h => by
  obtain ⟨k, d, rfl⟩ := h x (by simp)
  have ih := fget_find (es := r) n (fun x hx => h x (by simp [hx]))
  unfold fget at ih ⊢
  by_cases hk : n = k
  ·subst hk; simp [mcell, mfind]
  ·simp only [mcell, mfind, hk, if_false]
   exact ih
theorem IntMap.put {es : List AVal} (n d : Int) : IntMap es → IntMap (mput n (.int .i64 d) es) := by
 induction es with
 | nil => intro _ x hx; simp [mput] at hx; exact ⟨n, d, hx⟩
 | cons a r ih =>
  intro h x hx
  obtain ⟨k, z, rfl⟩ := h a (by simp)
  by_cases hk : n = k
  ·subst hk
   simp [mput, mcell] at hx
   rcases hx with hx | hx
   ·exact ⟨n, d, hx⟩
   ·exact h x (by simp [hx])
  ·simp [mput, mcell, hk] at hx
   rcases hx with hx | hx
   ·exact ⟨k, z, hx⟩
   ·exact ih (fun x hx => h x (by simp [hx])) x hx
abbrev St := List AVal × Bool
def w1 (d : Int) : Int := IntKind.i64.wrap (d + 1)
def rel1 (st : St) (e : Int × Int) : St := match fget st.1 e.1 with
 | none => st
 | some d => match fget st.1 e.2 with
  | none => (mput e.2 (.int .i64 (w1 d)) st.1, true)
  | some w => if w > w1 d then (mput e.2 (.int .i64 (w1 d)) st.1, true) else st
theorem rel1_int {st : St} {e : Int × Int} (h : IntMap st.1) : IntMap (rel1 st e).1 := by
 unfold rel1
 split
 ·exact h
 ·split
  ·exact h.put _ _
  ·split
   ·exact h.put _ _
   ·exact h
def dirs (p : Int × Int) : List (Int × Int) := [p, (p.2, p.1)]
def relP (st : St) (p : Int × Int) : St := (dirs p).foldl rel1 st
theorem relP_int {st : St} {p : Int × Int} (h : IntMap st.1) : IntMap (relP st p).1 := rel1_int (rel1_int h)
def passP (ps : List (Int × Int)) (st : St) : St := ps.foldl relP st
theorem passP_int : ∀ (ps : List (Int × Int)) {st : St}, IntMap st.1 → IntMap (passP ps st).1
 | [], _, h => h
 | p :: r, _, h => passP_int r (relP_int h)
def iterP (ps : List (Int × Int)) : Nat → List AVal → Option (List AVal)
 | 0, _ => none
 | f + 1, es => if (passP ps (es, false)).2 = true then iterP ps f (passP ps (es, false)).1 else some (passP ps (es, false)).1
theorem iterP_int {ps : List (Int × Int)} : ∀ {f : Nat} {es r : List AVal}, IntMap es → iterP ps f es = some r → IntMap r
 | 0, _, _, _, h => by cases h
 | f + 1, es, r, hi, h => by
  unfold iterP at h
  have h1 : IntMap (passP ps (es, false)).1 := passP_int ps hi
  split at h
  ·exact iterP_int h1 h
  ·cases h; exact h1
def toE (p : Int × Int) (x : Int) : Int := if p.1 = x then p.2 else p.1
def wm (d : Int) : Int := IntKind.i64.wrap (d - 1)
def stepOk (es : List AVal) (p : Int × Int) (x : Int) : Bool := (decide (p.1 = x) || decide (p.2 = x)) && (match fget es (toE p x) with | some d => decide (d = wm ((fget es x).getD 0)) | none => false)
def stepE (es : List AVal) (ps : List (Int × Int)) (x : Int) : Option (Int × Int) := ps.find? (fun p => stepOk es p x)
def pathP (es : List AVal) (ps : List (Int × Int)) (y : Int) : Nat → Int → Option (List (Int × Int))
 | 0, _ => none
 | f + 1, x => if x = y then some [] else match stepE es ps x with
  | some p => (match pathP es ps y f (toE p x) with | some l => some (p :: l) | none => none)
  | none => none
def wayF (ps : List (Int × Int)) (x y : Int) : Option (List (Int × Int) × Int) :=
 match iterP ps 1000 [mcell y (.int .i64 0)] with
 | none => none
 | some es => match fget es x with
  | none => some ([], 5)
  | some _ => match pathP es ps y 1000 x with
   | some l => some (l, 0)
   | none => none
def wayP (ps : List (Int × Int)) (x y : Int) : Option PVal := if ps.length ≤ 1000000 then (match wayF ps x y with
 | some r => some (.tup [.lst (r.1.map cPr.enc), .int .i64 r.2])
 | none => none) else none
theorem b0_walk {Q : LExit → AFr → Heap → Prop} {fr : AFr} {G : Heap} {p : Int × Int} {st : St} {kk : Nat} (hI : IntMap st.1) (g0 : G[0]? = some ⟨0, 0, false, st.1, 0⟩) (f8 : fr 8 = .omap 0 0) (f9 : fr 9 = .p (.bool st.2)) (f42 : fr 42 = .own kk 0 2 0) (f43 : fr 43 = .p (.int .i64 2)) (f44 : fr 44 = .p (.int .i64 0))
  (gk : G[kk]? = some ⟨2, 0, false, ((dirs p).map cPr.enc).map .p, 67⟩) (hkk : kk ≠ 0)
  (hQ : ∀ fr' G', (fr' 0 = fr 0 ∧ fr' 1 = fr 1 ∧ fr' 2 = fr 2 ∧ fr' 6 = fr 6 ∧ fr' 7 = fr 7 ∧ fr' 8 = fr 8 ∧ fr' 30 = fr 30 ∧ fr' 31 = fr 31 ∧ fr' 32 = fr 32) → G'[0]? = some ⟨0, 0, false, (relP st p).1, 0⟩ → fr' 9 = .p (.bool (relP st p).2) → Q .normal fr' G') : vc Tab.none lf17_B0 Q fr G := by
 simp only [lf17_B0, vc_block]
 refine loop_ind (fun fr' G' => ∃ (i : Nat) (s : St), i ≤ 2 ∧ IntMap s.1 ∧ (fr' 0 = fr 0 ∧ fr' 1 = fr 1 ∧ fr' 2 = fr 2 ∧ fr' 6 = fr 6 ∧ fr' 7 = fr 7 ∧ fr' 8 = fr 8 ∧ fr' 30 = fr 30 ∧ fr' 31 = fr 31 ∧ fr' 32 = fr 32) ∧ G'[0]? = some ⟨0, 0, false, s.1, 0⟩ ∧ fr' 9 = .p (.bool s.2) ∧ fr' 42 = .own kk 0 2 0 ∧ fr' 43 = .p (.int .i64 2) ∧ fr' 44 = .p (.int .i64 i) ∧
  G'[kk]? = some ⟨2, 0, false, ((dirs p).map cPr.enc).map .p, 67⟩ ∧ ((dirs p).drop i).foldl rel1 s = relP st p) (fun fr' _ => 2 - ivar (fr' 44)) ⟨0, st, by omega, hI, ⟨rfl, rfl, rfl, rfl, rfl, rfl, rfl, rfl, rfl⟩, g0, f9, f42, f43, f44, gk, rfl⟩ ?_
 rintro fr1 G1 ⟨i, s, hi, hs, ⟨z0, z1, z2, z6, z7, z8, z30, z31, z32⟩, q0, k9, k42, k43, k44, qk, hfo⟩
 have k8 : fr1 8 = .omap 0 0 := z8.trans f8
 have hl0 := (List.getElem?_eq_some_iff.1 q0).1
 have hlk := (List.getElem?_eq_some_iff.1 qk).1
 by_cases h : i < 2
 ·obtain ⟨e, he⟩ : ∃ e, (dirs p)[i]? = some e := ⟨_, List.getElem?_eq_getElem h⟩
  obtain ⟨ea, eb⟩ := e
  have hdr : (dirs p).drop i = (ea, eb) :: (dirs p).drop (i + 1) := by
   rw [List.drop_eq_getElem_cons (show i < (dirs p).length from h), getE he]
  rw [hdr, List.foldl_cons] at hfo
  have hel : (((dirs p).map cPr.enc).map AVal.p)[i]? = some (.p (.agg [.int .i64 ea, .int .i64 eb])) := by
   rw [List.getElem?_map, List.getElem?_map, he]; rfl
  obtain ⟨D, hD⟩ : ∃ D, D = ((dirs p).map cPr.enc).map AVal.p := ⟨_, rfl⟩
  have hDm : D = List.map (AVal.p ∘ cPr.enc) (dirs p) := by rw [hD, List.map_map]
  rw [← hD] at qk hel
  obtain ⟨es, bb⟩ := s
  simp only at hs q0 k9
  have hw := wrap_succ (i := i) (by omega)
  have hfa := fget_find ea hs
  have hfb := fget_find eb hs
  have hA0 : ∀ Z, (G1 ++ Z)[0]? = some ⟨0, 0, false, es, 0⟩ := fun Z => by rw [List.getElem?_append_left hl0]; exact q0
  have hS : ∀ Z x, ((G1 ++ Z).set 0 x)[kk]? = some ⟨2, 0, false, D, 67⟩ := fun Z x => by rw [List.getElem?_set_ne (by omega), List.getElem?_append_left hlk]; exact qk
  have hS0 : ∀ Z x, ((G1 ++ Z).set 0 x)[0]? = some x := fun Z x => List.getElem?_set_self (by simp; omega)
  have hAk : ∀ Z, (G1 ++ Z)[kk]? = some ⟨2, 0, false, D, 67⟩ := fun Z => by rw [List.getElem?_append_left hlk]; exact qk
  have h2 : (i : Int) < 2 := by omega
  cases ha : fget es ea with
  | none =>
   rw [ha] at hfa
   have hr : rel1 (es, bb) (ea, eb) = (es, bb) := by simp only [rel1, ha]
   rw [hr] at hfo
   simp only [Option.map_none] at hfa
   cases hb : fget es eb with
   | none =>
    rw [hb] at hfb
    simp only [Option.map_none] at hfb
    cases bb <;> (
     simp [k8, k9, k42, k43, k44, qk, h2, hel, hA0, hAk, z0, z1, z2, z6, z7, z30, z31, z32, f8, getT, getT0, setT, setT0, hfa, hfb, hw, ivar, -getElem?_pos, List.getElem?_cons_zero, List.getElem?_cons_succ]
     exact ⟨⟨i + 1, by omega, es, hs, rfl, rfl, hDm, hfo⟩, by omega⟩)
   | some w =>
    rw [hb] at hfb
    simp only [Option.map_some] at hfb
    cases bb <;> (
     simp [k8, k9, k42, k43, k44, qk, h2, hel, hA0, hAk, z0, z1, z2, z6, z7, z30, z31, z32, f8, getT, getT0, setT, setT0, hfa, hfb, hw, ivar, -getElem?_pos, List.getElem?_cons_zero, List.getElem?_cons_succ]
     exact ⟨⟨i + 1, by omega, es, hs, rfl, rfl, hDm, hfo⟩, by omega⟩)
  | some d =>
   rw [ha] at hfa
   simp only [Option.map_some] at hfa
   cases hb : fget es eb with
   | none =>
    rw [hb] at hfb
    simp only [Option.map_none] at hfb
    have hr : rel1 (es, bb) (ea, eb) = (mput eb (.int .i64 (w1 d)) es, true) := by simp only [rel1, ha, hb]
    rw [hr] at hfo
    have hin := hs.put eb (w1 d)
    unfold w1 at hfo hin
    simp [k8, k9, k42, k43, k44, qk, h2, hel, hA0, hAk, hS, hS0, z0, z1, z2, z6, z7, z30, z31, z32, f8, getT, getT0, setT, setT0, hfa, hfb, hw, ivar, -getElem?_pos, List.getElem?_cons_zero, List.getElem?_cons_succ]
    exact ⟨⟨i + 1, by omega, _, hin, rfl, rfl, hDm, hfo⟩, by omega⟩
   | some w =>
    rw [hb] at hfb
    simp only [Option.map_some] at hfb
    by_cases hwd : w > w1 d
    ·have hr : rel1 (es, bb) (ea, eb) = (mput eb (.int .i64 (w1 d)) es, true) := by simp only [rel1, ha, hb, if_pos hwd]
     rw [hr] at hfo
     have hin := hs.put eb (w1 d)
     have hwd' : IntKind.i64.wrap (d + 1) < w := hwd
     unfold w1 at hfo hin
     simp [k8, k9, k42, k43, k44, qk, h2, hel, hA0, hAk, hS, hS0, z0, z1, z2, z6, z7, z30, z31, z32, f8, getT, getT0, setT, setT0, hfa, hfb, hwd', hw, ivar, -getElem?_pos, List.getElem?_cons_zero, List.getElem?_cons_succ]
     exact ⟨⟨i + 1, by omega, _, hin, rfl, rfl, hDm, hfo⟩, by omega⟩
    ·have hr : rel1 (es, bb) (ea, eb) = (es, bb) := by simp only [rel1, ha, hb, if_neg hwd]
     rw [hr] at hfo
     have hwd' : ¬ IntKind.i64.wrap (d + 1) < w := hwd
     cases bb <;> (
      simp [k8, k9, k42, k43, k44, qk, h2, hel, hA0, hAk, hS, hS0, z0, z1, z2, z6, z7, z30, z31, z32, f8, getT, getT0, setT, setT0, hfa, hfb, hwd', hw, ivar, -getElem?_pos, List.getElem?_cons_zero, List.getElem?_cons_succ]
      exact ⟨⟨i + 1, by omega, es, hs, rfl, rfl, hDm, hfo⟩, by omega⟩)
 ·have hi2 : i = 2 := by omega
  subst hi2
  have hfo' : s = relP st p := hfo
  subst hfo'
  simp [k43, k44]
  exact hQ _ _ ⟨by simp [z0], by simp [z1], by simp [z2], by simp [z6], by simp [z7], by simp [z8], by simp [z30], by simp [z31], by simp [z32]⟩ q0 (by simp [k9])
end Go.Proofs.YtgbjjikaenlkmaaGreat

/-
 uf: the shortest way.
-/
namespace Go.Proofs.YtgbjjikaenlkmaaGreat
open Go Go.Abs Go.Limbs
variable {base : Prot}
set_option maxRecDepth 20000
attribute [local irreducible] vc
attribute [local simp] pureS touchV freezeL fuel shiftV u64 au
theorem b1_walk {Q : LExit → AFr → Heap → Prop} {fr : AFr} {G : Heap} {ps : List (Int × Int)} {st : St} (hI : IntMap st.1) (hlen : ps.length ≤ 1000000) (g0 : G[0]? = some ⟨0, 0, false, st.1, 0⟩) (f8 : fr 8 = .omap 0 0) (f9 : fr 9 = .p (.bool st.2)) (f30 : fr 30 = .p (.lst (ps.map cPr.enc))) (f31 : fr 31 = .p (.int .i64 ps.length)) (f32 : fr 32 = .p (.int .i64 0))
  (hQ : ∀ fr' G', (fr' 0 = fr 0 ∧ fr' 1 = fr 1 ∧ fr' 2 = fr 2 ∧ fr' 6 = fr 6 ∧ fr' 7 = fr 7 ∧ fr' 8 = fr 8) → G'[0]? = some ⟨0, 0, false, (passP ps st).1, 0⟩ → fr' 9 = .p (.bool (passP ps st).2) → Q .normal fr' G') : vc Tab.none lf17_B1 Q fr G := by
 simp only [lf17_B1, vc_block]
 refine loop_ind (fun fr' G' => ∃ (i : Nat) (s : St), i ≤ ps.length ∧ IntMap s.1 ∧ (fr' 0 = fr 0 ∧ fr' 1 = fr 1 ∧ fr' 2 = fr 2 ∧ fr' 6 = fr 6 ∧ fr' 7 = fr 7 ∧ fr' 8 = fr 8) ∧ G'[0]? = some ⟨0, 0, false, s.1, 0⟩ ∧ fr' 9 = .p (.bool s.2) ∧ fr' 30 = .p (.lst (ps.map cPr.enc)) ∧ fr' 31 = .p (.int .i64 ps.length) ∧ fr' 32 = .p (.int .i64 i) ∧
  (ps.drop i).foldl relP s = passP ps st) (fun fr' _ => ps.length - ivar (fr' 32)) ⟨0, st, by omega, hI, ⟨rfl, rfl, rfl, rfl, rfl, rfl⟩, g0, f9, f30, f31, f32, rfl⟩ ?_
 rintro fr1 G1 ⟨i, s, hi, hs, ⟨z0, z1, z2, z6, z7, z8⟩, q0, k9, k30, k31, k32, hfo⟩
 have k8 : fr1 8 = .omap 0 0 := z8.trans f8
 have hl0 := (List.getElem?_eq_some_iff.1 q0).1
 by_cases h : i < ps.length
 ·obtain ⟨p, hp⟩ : ∃ p, ps[i]? = some p := ⟨_, List.getElem?_eq_getElem h⟩
  have hnp := getE hp
  have hdr : ps.drop i = p :: ps.drop (i + 1) := by rw [List.drop_eq_getElem_cons h, hnp]
  rw [hdr, List.foldl_cons] at hfo
  have hw := wrap_succ (i := i) (by omega)
  obtain ⟨pa, pb⟩ := p
  have hpe : cPr.enc (pa, pb) = .agg [.int .i64 pa, .int .i64 pb] := rfl
  have hA0 : ∀ Z, (G1 ++ Z)[0]? = some ⟨0, 0, false, s.1, 0⟩ := fun Z => by rw [List.getElem?_append_left hl0]; exact q0
  simp [k30, k31, k32, h, hp, hnp, hpe, getT, getT0, setT, setT0, fillS, fillA, -getElem?_pos, List.getElem?_cons_zero, List.getElem?_cons_succ]
  refine b0_walk (p := (pa, pb)) (st := s) (kk := G1.length + 1) hs (hA0 _) (by simp [k8]) (by simp [k9]) (by simp) (by simp) (by simp) (by rw [getT]; simp [dirs, cPr]) (by omega) fun fr2 G2 ⟨y0, y1, y2, y6, y7, y8, y30, y31, y32⟩ p0 j9 => ?_
  simp at y0 y1 y2 y6 y7 y8 y30 y31 y32
  simp [y0, y1, y2, y6, y7, y8, y30, y31, y32, z0, z1, z2, z6, z7, z8, k8, k30, k31, k32, f8, p0, j9, hw, ivar]
  have hin : IntMap (relP s (pa, pb)).1 := relP_int hs
  generalize relP s (pa, pb) = sp at hin hfo
  obtain ⟨ra, rb⟩ := sp
  refine ⟨⟨i + 1, by omega, ra, hin, rfl, ?_⟩, by omega⟩
  cases rb
  ·exact .inl ⟨rfl, rfl, hfo⟩
  ·exact .inr ⟨rfl, rfl, hfo⟩
 ·have hil : i = ps.length := by omega
  subst hil
  rw [List.drop_of_length_le (Nat.le_refl _)] at hfo
  have hfo' : s = passP ps st := hfo
  subst hfo'
  simp [k31, k32]
  exact hQ _ _ ⟨by simp [z0], by simp [z1], by simp [z2], by simp [z6], by simp [z7], by simp [z8]⟩ q0 (by simp [k9])
theorem b2_walk {Q : LExit → AFr → Heap → Prop} {fr : AFr} {G : Heap} {ps : List (Int × Int)} {es esF : List AVal} {m : Nat} (hI : IntMap es) (hlen : ps.length ≤ 1000000) (hit : iterP ps m es = some esF) (g0 : G[0]? = some ⟨0, 0, false, es, 0⟩) (f0 : fr 0 = .p (.lst (ps.map cPr.enc))) (f8 : fr 8 = .omap 0 0) (f9 : fr 9 = .p (.bool true))
  (hQ : ∀ fr' G', (fr' 0 = fr 0 ∧ fr' 1 = fr 1 ∧ fr' 2 = fr 2 ∧ fr' 6 = fr 6 ∧ fr' 7 = fr 7 ∧ fr' 8 = fr 8) → G'[0]? = some ⟨0, 0, false, esF, 0⟩ → Q .normal fr' G') : vc Tab.none lf17_B2 Q fr G := by
 simp only [lf17_B2, vc_block]
 obtain ⟨J, hJ⟩ : ∃ J : Nat → AFr → Heap → Prop, J = fun m fr' G' => ∃ es, IntMap es ∧ (fr' 0 = fr 0 ∧ fr' 1 = fr 1 ∧ fr' 2 = fr 2 ∧ fr' 6 = fr 6 ∧ fr' 7 = fr 7 ∧ fr' 8 = fr 8) ∧ G'[0]? = some ⟨0, 0, false, es, 0⟩ ∧ ((fr' 9 = .p (.bool true) ∧ iterP ps m es = some esF) ∨ (fr' 9 = .p (.bool false) ∧ m = 0 ∧ es = esF)) := ⟨_, rfl⟩
 refine loop_g J (m0 := m) (by rw [hJ]; exact ⟨es, hI, ⟨rfl, rfl, rfl, rfl, rfl, rfl⟩, g0, .inl ⟨f9, hit⟩⟩) fun m fr1 G1 hj => ?_
 rw [hJ] at hj
 obtain ⟨es, hes, ⟨z0, z1, z2, z6, z7, z8⟩, q0, ⟨k9, hit⟩ | ⟨k9, rfl, rfl⟩⟩ := hj
 ·simp [k9]
  cases m with
  | zero => cases hit
  | succ m =>
  unfold iterP at hit
  simp [z0, f0]
  refine b1_walk (ps := ps) (st := (es, false)) hes hlen q0 (by simp [z8, f8]) (by simp) (by simp) (by simp) (by simp) fun fr2 G2 ⟨y0, y1, y2, y6, y7, y8⟩ p0 j9 => ?_
  simp at y0 y1 y2 y6 y7 y8
  have hin : IntMap (passP ps (es, false)).1 := passP_int ps hes
  simp
  split at hit
  ·rename_i hg
   refine round_g (m' := m) ?_ (Nat.lt_succ_self m)
   rw [hJ]
   exact ⟨_, hin, ⟨y0.trans z0, y1.trans z1, y2.trans z2, y6.trans z6, y7.trans z7, y8.trans z8⟩, p0, .inl ⟨by rw [j9, hg], hit⟩⟩
  ·rename_i hg
   cases hit
   refine round_g (m' := 0) ?_ (Nat.succ_pos m)
   rw [hJ]
   exact ⟨_, hin, ⟨y0.trans z0, y1.trans z1, y2.trans z2, y6.trans z6, y7.trans z7, y8.trans z8⟩, p0, .inr ⟨by rw [j9]; simp at hg; rw [hg], rfl, rfl⟩⟩
 ·simp [k9]
  exact hQ _ _ ⟨by simp [z0], by simp [z1], by simp [z2], by simp [z6], by simp [z7], by simp [z8]⟩ q0
theorem pathP_len {es : List AVal} {ps : List (Int × Int)} {y : Int} : ∀ {f : Nat} {x : Int} {l : List (Int × Int)}, pathP es ps y f x = some l → l.length < f
 | 0, _, _, h => by cases h
 | f + 1, x, l, h => by
  unfold pathP at h
  split at h
  ·cases h; simp
  ·split at h
   ·split at h
    ·rename_i r hr
     cases h
     have := pathP_len hr
     simp; omega
    ·cases h
   ·cases h
theorem find_drop {α : Type} {q : α → Bool} : ∀ {l : List α} {i : Nat} {p : α}, (l.drop i).find? q = some p → ∀ {a : α}, l[i]? = some a → (q a = true ∧ a = p) ∨ (q a = false ∧ (l.drop (i + 1)).find? q = some p) := by
 intro l i p h a ha
 have hi := (List.getElem?_eq_some_iff.1 ha).1
 have hd : l.drop i = a :: l.drop (i + 1) := by rw [List.drop_eq_getElem_cons hi, getE ha]
 rw [hd, List.find?_cons] at h
 cases hq : q a with
 | true => rw [hq] at h; cases h; exact .inl ⟨rfl, rfl⟩
 | false => rw [hq] at h; exact .inr ⟨rfl, h⟩
def OutIs (G : Heap) (v : AVal) (out : List (Int × Int)) : Prop := (out = [] ∧ v = .tight []) ∨ ∃ m w, 0 < m ∧ v = .own m 0 out.length w ∧ G[m]? = some ⟨2, w, false, (out.map cPr.enc).map .p, 67⟩
theorem b3_walk {Q : LExit → AFr → Heap → Prop} {fr : AFr} {G : Heap} {ps : List (Int × Int)} {es : List AVal} {out : List (Int × Int)} {p : Int × Int} {x : Int} {v20 : AVal} (hI : IntMap es) (hlen : ps.length ≤ 1000000) (hol : out.length ≤ 1000000) (g0 : G[0]? = some ⟨0, 0, false, es, 0⟩) (f1 : fr 1 = .p (.int .i64 x)) (f8 : fr 8 = .omap 0 0) (f20 : fr 20 = v20) (hout : OutIs G v20 out)
  (f91 : fr 91 = .p (.lst (ps.map cPr.enc))) (f92 : fr 92 = .p (.int .i64 ps.length)) (f93 : fr 93 = .p (.int .i64 0)) (hst : stepE es ps x = some p) (hfx : ∃ d, fget es x = some d)
  (hQ : ∀ fr' G', (fr' 0 = fr 0 ∧ fr' 2 = fr 2 ∧ fr' 6 = fr 6 ∧ fr' 7 = fr 7 ∧ fr' 8 = fr 8) → G'[0]? = some ⟨0, 0, false, es, 0⟩ → fr' 1 = .p (.int .i64 (toE p x)) → OutIs G' (fr' 20) (out ++ [p]) → Q .normal fr' G') : vc Tab.none lf17_B3 Q fr G := by
 simp only [lf17_B3, vc_block]
 refine loop_ind (fun fr' G' => ∃ (i : Nat), i ≤ ps.length ∧ (fr' 0 = fr 0 ∧ fr' 2 = fr 2 ∧ fr' 6 = fr 6 ∧ fr' 7 = fr 7 ∧ fr' 8 = fr 8) ∧ G'[0]? = some ⟨0, 0, false, es, 0⟩ ∧ fr' 1 = .p (.int .i64 x) ∧ fr' 20 = v20 ∧ OutIs G' v20 out ∧ fr' 91 = .p (.lst (ps.map cPr.enc)) ∧ fr' 92 = .p (.int .i64 ps.length) ∧ fr' 93 = .p (.int .i64 i) ∧
  (ps.drop i).find? (fun p => stepOk es p x) = some p) (fun fr' _ => ps.length - ivar (fr' 93)) ⟨0, by omega, ⟨rfl, rfl, rfl, rfl, rfl⟩, g0, f1, f20, hout, f91, f92, f93, hst⟩ ?_
 rintro fr1 G1 ⟨i, hi, ⟨z0, z2, z6, z7, z8⟩, q0, k1, k20, ho, k91, k92, k93, hfd⟩
 have k8 : fr1 8 = .omap 0 0 := z8.trans f8
 have hl0 := (List.getElem?_eq_some_iff.1 q0).1
 by_cases h : i < ps.length
 ·obtain ⟨e, hp⟩ : ∃ p, ps[i]? = some p := ⟨_, List.getElem?_eq_getElem h⟩
  have hnp := getE hp
  have hw := wrap_succ (i := i) (by omega)
  have hfd2 := find_drop hfd hp
  obtain ⟨ea, eb⟩ := e
  have hpe : cPr.enc (ea, eb) = .agg [.int .i64 ea, .int .i64 eb] := rfl
  have hA0 : ∀ Z, (G1 ++ Z)[0]? = some ⟨0, 0, false, es, 0⟩ := fun Z => by rw [List.getElem?_append_left hl0]; exact q0
  obtain ⟨dx, hdx⟩ := hfx
  have hfgx := fget_find x hI
  rw [hdx] at hfgx
  simp only [Option.map_some] at hfgx
  have hfgt := fget_find (toE (ea, eb) x) hI
  have hok : stepOk es (ea, eb) x = ((decide (ea = x) || decide (eb = x)) && (match fget es (toE (ea, eb) x) with | some d => decide (d = IntKind.i64.wrap (dx - 1)) | none => false)) := by
   simp only [stepOk, hdx, wm]
   rfl
  have hoA : ∀ Z, OutIs (G1 ++ Z) v20 out := fun Z => by
   rcases ho with h | ⟨m, w, h1, h2, h3⟩
   ·exact .inl h
   ·exact .inr ⟨m, w, h1, h2, by rw [List.getElem?_append_left (List.getElem?_eq_some_iff.1 h3).1]; exact h3⟩
  unfold toE at hfgt hok
  have hb1 : 1 ≤ maxLen := by decide
  have hb2 : (out.length + 1) * 16 ≤ 140737488355328 := by omega
  have hb3 : out.length + 1 ≤ maxLen := by have : maxLen = 9223372036854775807 := rfl; omega
  by_cases ha : ea = x
  ·simp only [ha, if_true] at hfgt hok
   subst ha
   cases ht : fget es eb with
   | none =>
    rw [ht] at hfgt hok
    simp only [Option.map_none] at hfgt
    simp at hok
    rcases hfd2 with ⟨h1, -⟩ | ⟨-, h2⟩
    ·rw [hok] at h1; cases h1
    ·simp [k1, k8, k20, k91, k92, k93, h, hp, hnp, hpe, hA0, hfgt, hfgx, hw, ivar, z0, z2, z6, z7, f8, getT, getT0, setT, setT0, -getElem?_pos, List.getElem?_cons_zero, List.getElem?_cons_succ]
     exact ⟨⟨i + 1, by omega, hoA _, rfl, h2⟩, by omega⟩
   | some d =>
    rw [ht] at hfgt hok
    simp only [Option.map_some] at hfgt
    by_cases hd : d = IntKind.i64.wrap (dx - 1)
    ·have hd' : (d == IntKind.i64.wrap (dx - 1)) = true := by simpa using hd
     simp [hd] at hok
     rcases hfd2 with ⟨-, h1⟩ | ⟨h1, -⟩
     ·subst h1
      rcases ho with ⟨rfl, rfl⟩ | ⟨m, w, hm0, rfl, gm⟩
      ·simp [k1, k8, k20, k91, k92, k93, h, hp, hnp, hpe, hA0, hfgt, hfgx, hw, ivar, z0, z2, z6, z7, f8, hd', hd, fillS, hb1, getT, getT0, setT, setT0, -getElem?_pos, List.getElem?_cons_zero, List.getElem?_cons_succ]
       exact hQ _ _ ⟨by simp [z0], by simp [z2], by simp [z6], by simp [z7], by simp [z8]⟩ (hA0 _) (by simp [toE, ]) (.inr ⟨G1.length + 2, 0, by omega, by simp, by rw [getT]; rfl⟩)
      ·obtain ⟨Lo, hLo⟩ : ∃ L, L = (out.map cPr.enc).map AVal.p := ⟨_, rfl⟩
       have hLl : Lo.length = out.length := by rw [hLo]; simp
       rw [← hLo] at gm
       have hml := (List.getElem?_eq_some_iff.1 gm).1
       have hM : ∀ Z, (G1 ++ Z)[m]? = some ⟨2, w, false, Lo, 67⟩ := fun Z => by rw [List.getElem?_append_left hml]; exact gm
       simp [k1, k8, k20, k91, k92, k93, h, hp, hnp, hpe, hA0, hfgt, hfgx, hw, ivar, z0, z2, z6, z7, f8, hd', hd, fillS, hM, hLl, hb2, hb3, getT, getT0, setT, setT0, -getElem?_pos, List.getElem?_cons_zero, List.getElem?_cons_succ]
       exact hQ _ _ ⟨by simp [z0], by simp [z2], by simp [z6], by simp [z7], by simp [z8]⟩ (by rw [List.getElem?_set_ne (by omega)]; exact hA0 _) (by simp [toE, ]) (.inr ⟨m, w + 1, hm0, by simp, by rw [List.getElem?_set_self (by simp; omega), hLo]; simp [cPr]⟩)
     ·rw [hok] at h1; cases h1
    ·have hd' : (d == IntKind.i64.wrap (dx - 1)) = false := by simpa using hd
     simp [hd] at hok
     rcases hfd2 with ⟨h1, -⟩ | ⟨-, h2⟩
     ·rw [hok] at h1; cases h1
     ·simp [k1, k8, k20, k91, k92, k93, h, hp, hnp, hpe, hA0, hfgt, hfgx, hw, ivar, z0, z2, z6, z7, f8, hd', getT, getT0, setT, setT0, -getElem?_pos, List.getElem?_cons_zero, List.getElem?_cons_succ]
      exact ⟨⟨i + 1, by omega, hoA _, rfl, h2⟩, by omega⟩
  ·have ha1 : (ea != x) = true := by simpa using ha
   have ha2 : (ea == x) = false := by simpa using ha
   simp only [ha, if_false] at hfgt hok
   by_cases hb : eb = x
   ·subst hb
    cases ht : fget es ea with
    | none =>
     rw [ht] at hfgt hok
     simp only [Option.map_none] at hfgt
     simp at hok
     rcases hfd2 with ⟨h1, -⟩ | ⟨-, h2⟩
     ·rw [hok] at h1; cases h1
     ·simp [k1, k8, k20, k91, k92, k93, h, hp, hnp, hpe, hA0, hfgt, hfgx, hw, ivar, z0, z2, z6, z7, f8, ha1, ha2, getT, getT0, setT, setT0, -getElem?_pos, List.getElem?_cons_zero, List.getElem?_cons_succ]
      exact ⟨⟨i + 1, by omega, hoA _, rfl, h2⟩, by omega⟩
    | some d =>
     rw [ht] at hfgt hok
     simp only [Option.map_some] at hfgt
     by_cases hd : d = IntKind.i64.wrap (dx - 1)
     ·have hd' : (d == IntKind.i64.wrap (dx - 1)) = true := by simpa using hd
      simp [hd, ha] at hok
      rcases hfd2 with ⟨-, h1⟩ | ⟨h1, -⟩
      ·subst h1
       rcases ho with ⟨rfl, rfl⟩ | ⟨m, w, hm0, rfl, gm⟩
       ·simp [k1, k8, k20, k91, k92, k93, h, hp, hnp, hpe, hA0, hfgt, hfgx, hw, ivar, z0, z2, z6, z7, f8, hd', hd, ha1, ha2, fillS, hb1, getT, getT0, setT, setT0, -getElem?_pos, List.getElem?_cons_zero, List.getElem?_cons_succ]
        exact hQ _ _ ⟨by simp [z0], by simp [z2], by simp [z6], by simp [z7], by simp [z8]⟩ (hA0 _) (by simp [toE, ha]) (.inr ⟨G1.length + 2, 0, by omega, by simp, by rw [getT]; rfl⟩)
       ·obtain ⟨Lo, hLo⟩ : ∃ L, L = (out.map cPr.enc).map AVal.p := ⟨_, rfl⟩
        have hLl : Lo.length = out.length := by rw [hLo]; simp
        rw [← hLo] at gm
        have hml := (List.getElem?_eq_some_iff.1 gm).1
        have hM : ∀ Z, (G1 ++ Z)[m]? = some ⟨2, w, false, Lo, 67⟩ := fun Z => by rw [List.getElem?_append_left hml]; exact gm
        simp [k1, k8, k20, k91, k92, k93, h, hp, hnp, hpe, hA0, hfgt, hfgx, hw, ivar, z0, z2, z6, z7, f8, hd', hd, ha1, ha2, fillS, hM, hLl, hb2, hb3, getT, getT0, setT, setT0, -getElem?_pos, List.getElem?_cons_zero, List.getElem?_cons_succ]
        exact hQ _ _ ⟨by simp [z0], by simp [z2], by simp [z6], by simp [z7], by simp [z8]⟩ (by rw [List.getElem?_set_ne (by omega)]; exact hA0 _) (by simp [toE, ha]) (.inr ⟨m, w + 1, hm0, by simp, by rw [List.getElem?_set_self (by simp; omega), hLo]; simp [cPr]⟩)
      ·rw [hok] at h1; cases h1
     ·have hd' : (d == IntKind.i64.wrap (dx - 1)) = false := by simpa using hd
      simp [hd] at hok
      rcases hfd2 with ⟨h1, -⟩ | ⟨-, h2⟩
      ·rw [hok] at h1; cases h1
      ·simp [k1, k8, k20, k91, k92, k93, h, hp, hnp, hpe, hA0, hfgt, hfgx, hw, ivar, z0, z2, z6, z7, f8, hd', ha1, ha2, getT, getT0, setT, setT0, -getElem?_pos, List.getElem?_cons_zero, List.getElem?_cons_succ]
       exact ⟨⟨i + 1, by omega, hoA _, rfl, h2⟩, by omega⟩
   ·have hb4 : (eb == x) = false := by simpa using hb
    cases ht : fget es ea with
    | none =>
     rw [ht] at hfgt hok
     simp only [Option.map_none] at hfgt
     simp [hb, ha] at hok
     rcases hfd2 with ⟨h1, -⟩ | ⟨-, h2⟩
     ·rw [hok] at h1; cases h1
     ·simp [k1, k8, k20, k91, k92, k93, h, hp, hnp, hpe, hA0, hfgt, hfgx, hw, ivar, z0, z2, z6, z7, f8, ha1, ha2, hb4, getT, getT0, setT, setT0, -getElem?_pos, List.getElem?_cons_zero, List.getElem?_cons_succ]
      exact ⟨⟨i + 1, by omega, hoA _, rfl, h2⟩, by omega⟩
    | some d =>
     rw [ht] at hfgt hok
     simp only [Option.map_some] at hfgt
     simp [hb, ha] at hok
     rcases hfd2 with ⟨h1, -⟩ | ⟨-, h2⟩
     ·rw [hok] at h1; cases h1
     ·simp [k1, k8, k20, k91, k92, k93, h, hp, hnp, hpe, hA0, hfgt, hfgx, hw, ivar, z0, z2, z6, z7, f8, ha1, ha2, hb4, getT, getT0, setT, setT0, -getElem?_pos, List.getElem?_cons_zero, List.getElem?_cons_succ]
      exact ⟨⟨i + 1, by omega, hoA _, rfl, h2⟩, by omega⟩
 ·have hil : i = ps.length := by omega
  subst hil
  rw [List.drop_of_length_le (Nat.le_refl _)] at hfd
  cases hfd
end Go.Proofs.YtgbjjikaenlkmaaGreat

/-
 uf: the shortest way, whole.
-/
namespace Go.Proofs.YtgbjjikaenlkmaaGreat
open Go Go.Abs Go.Limbs
variable {base : Prot}
set_option maxRecDepth 20000
attribute [local irreducible] vc
attribute [local simp] pureS touchV freezeL fuel shiftV u64 au
theorem b4_walk {Q : LExit → AFr → Heap → Prop} {fr : AFr} {G : Heap} {ps : List (Int × Int)} {es : List AVal} {x y : Int} {l : List (Int × Int)} {m : Nat} (hI : IntMap es) (hlen : ps.length ≤ 1000000) (hll : l.length ≤ 1000000) (hp : pathP es ps y m x = some l) (hfx : ∃ d, fget es x = some d) (g0 : G[0]? = some ⟨0, 0, false, es, 0⟩) (f0 : fr 0 = .p (.lst (ps.map cPr.enc))) (f1 : fr 1 = .p (.int .i64 x)) (f2 : fr 2 = .p (.int .i64 y)) (f8 : fr 8 = .omap 0 0) (f20 : fr 20 = .tight [])
  (hQ : ∀ fr' G' out, out = l → OutIs G' (fr' 20) out → Q .normal fr' G') : vc Tab.none lf17_B4 Q fr G := by
 simp only [lf17_B4, vc_block]
 obtain ⟨J, hJ⟩ : ∃ J : Nat → AFr → Heap → Prop, J = fun m fr' G' => ∃ (x : Int) (out rest : List (Int × Int)), pathP es ps y m x = some rest ∧ l = out ++ rest ∧ (∃ d, fget es x = some d) ∧ G'[0]? = some ⟨0, 0, false, es, 0⟩ ∧ fr' 0 = .p (.lst (ps.map cPr.enc)) ∧ fr' 1 = .p (.int .i64 x) ∧ fr' 2 = .p (.int .i64 y) ∧ fr' 8 = .omap 0 0 ∧ OutIs G' (fr' 20) out := ⟨_, rfl⟩
 refine loop_g J (m0 := m) (by rw [hJ]; exact ⟨x, [], l, hp, rfl, hfx, g0, f0, f1, f2, f8, .inl ⟨rfl, f20⟩⟩) fun m fr1 G1 hj => ?_
 rw [hJ] at hj
 obtain ⟨x, out, rest, hp, hl, hfx, q0, k0, k1, k2, k8, ho⟩ := hj
 cases m with
 | zero => cases hp
 | succ m =>
 unfold pathP at hp
 by_cases hxy : x = y
 ·rw [if_pos hxy] at hp
  cases hp
  rw [List.append_nil] at hl
  have hb : (x != y) = false := by simpa using hxy
  simp [k1, k2, hb]
  exact hQ _ _ out hl.symm (by simpa using ho)
 ·rw [if_neg hxy] at hp
  have hb : (x != y) = true := by simpa using hxy
  cases hst : stepE es ps x with
  | none => rw [hst] at hp; cases hp
  | some p =>
  rw [hst] at hp
  simp only at hp
  cases hpr : pathP es ps y m (toE p x) with
  | none => rw [hpr] at hp; cases hp
  | some r =>
  rw [hpr] at hp
  simp only [Option.some.injEq] at hp
  subst hp
  have hft : ∃ d, fget es (toE p x) = some d := by
   have := List.find?_some hst
   unfold stepOk at this
   simp only [Bool.and_eq_true] at this
   cases hh : fget es (toE p x) with
   | none => rw [hh] at this; simp at this
   | some d => exact ⟨d, rfl⟩
  have hol : out.length ≤ 1000000 := by
   have := congrArg List.length hl
   simp at this
   omega
  simp [k1, k2, hb, k0]
  refine b3_walk (ps := ps) (p := p) (x := x) (out := out) hI hlen hol q0 (by simp [k1]) (by simp [k8]) rfl (by simpa using ho) (by simp) (by simp) (by simp) hst hfx fun fr2 G2 ⟨y0, y2, y6, y7, y8⟩ p0 j1 jo => ?_
  simp at y0 y2 y6 y7 y8
  simp
  refine round_g (m' := m) ?_ (Nat.lt_succ_self m)
  rw [hJ]
  exact ⟨toE p x, out ++ [p], r, hpr, by rw [hl]; simp, hft, p0, y0.trans k0, j1, y2.trans k2, y8.trans k8, jo⟩
theorem merge_ok : FnOk Tryz.prog base 17 (pureS (sp3 cPr.lst cI cI wayP)) := by
 refine pure_of_vc hmix Tab.none_ok globNone low17 fun args z hs hf => ?_
 obtain ⟨ps, x, y, -, -, -, rfl, hz⟩ := sp3_some hs
 unfold wayP at hz
 split at hz
 case isFalse => cases hz
 rename_i hlen
 cases hw : wayF ps x y with
 | none => rw [hw] at hz; cases hz
 | some r =>
 rw [hw] at hz
 cases hz
 unfold wayF at hw
 cases hit : iterP ps 1000 [mcell y (.int .i64 0)] with
 | none => rw [hit] at hw; cases hw
 | some es =>
 rw [hit] at hw
 simp only at hw
 refine ⟨by simp [lf17], ?_⟩
 simp only [cI, Cd.lst]
 have hI0 : IntMap [mcell y (.int .i64 0)] := fun a ha => by simp at ha; exact ⟨y, 0, ha⟩
 have hI := iterP_int hI0 hit
 have hfx := fget_find x hI
 simp [lf17, mput]
 refine b2_walk hI0 hlen hit rfl (by simp) (by simp) (by simp) fun fr G ⟨z0, z1, z2, z6, z7, z8⟩ g0 => ?_
 simp at z0 z1 z2 z6 z7 z8
 cases hx : fget es x with
 | none =>
  rw [hx] at hw hfx
  simp only [Option.map_none] at hfx
  cases hw
  simp [z8, z1, g0, hfx]
 | some d =>
  rw [hx] at hw hfx
  simp only [Option.map_some] at hfx
  cases hpp : pathP es ps y 1000 x with
  | none => rw [hpp] at hw; cases hw
  | some l =>
  rw [hpp] at hw
  cases hw
  have hll := pathP_len hpp
  simp [z8, z1, g0, hfx]
  refine b4_walk hI hlen (by omega) hpp ⟨d, hx⟩ g0 (by simp [z0]) (by simp [z1]) (by simp [z2]) (by simp [z8]) (by simp) fun fr2 G2 out hout ho => ?_
  subst hout
  rcases ho with ⟨rfl, h20⟩ | ⟨m, w, -, h20, gm⟩
  ·simp [h20]
  ·have ht : List.take out.length ((out.map cPr.enc).map AVal.p) = (out.map cPr.enc).map AVal.p := List.take_of_length_le (by simp)
   simp only [List.map_map] at ht gm
   have hm2 := mapO_pure G2 6 (out.map cPr.enc)
   have hm3 := mapO_pure G2 7 (out.map cPr.enc)
   simp only [List.map_map] at hm2 hm3
   simp [h20, gm, ht, hm2, hm3]
end Go.Proofs.YtgbjjikaenlkmaaGreat
