/-
  ScriptBack answers true on all values. No conditions.
-/
import Derived.Test.YtcbagnlidecmkaaGreatDoorScriptF
import Derived.Test.YtcbagnlidecmkaaGreatDoorSexpE
import Derived.Test.YtcbagnlidecmkaaGreatDoorScriptL
import Derived.Test.YtcbagnlidecmkaaGreatDoorScriptP
set_option linter.unusedSimpArgs false
set_option linter.unnecessarySimpa false
set_option linter.unusedVariables false
set_option linter.constructorNameAsVariable false

/-
 ref11.SameCommand.
-/
namespace Go.Proofs.YtcbagnlidecmkaaGreatDoor
open Go Go.Abs Go.Lex Go.Sexp
set_option maxRecDepth 20000
attribute [local irreducible] vc
attribute [local simp] pureS touchV freezeL fuel shiftV
variable {base : Prot} {m : Int}
open Classical in
noncomputable def sSameC : List PVal → Option PVal
 | [v, u] => match decC v, decC u with
  | some a, some b => if a.map key = b.map key ∧ a.term.size ≤ 1000000 ∧ sizeL a.terms ≤ 1000000 ∧ a.params.length ≤ 100000 then some (.bool true) else none
  | _, _ => none
 | _ => none
theorem sSameC_at {a b : Cmd Wd} (h : a.map key = b.map key) (h1 : a.term.size ≤ 1000000) (h2 : sizeL a.terms ≤ 1000000) (h3 : a.params.length ≤ 100000) : sSameC [encC a, encC b] = some (.bool true) := by
 simp only [sSameC, decC_enc]
 exact if_pos ⟨h, h1, h2, h3⟩
theorem mapL_get {f : Wd → Lex.Key} : ∀ {l : List (Tr Wd)} {i : Nat} {t : Tr Wd}, l[i]? = some t → (mapL f l)[i]? = some (t.map f)
 | a :: l, 0, t, h => by cases h; rfl
 | a :: l, i + 1, t, h => by
  simp only [mapL, List.getElem?_cons_succ] at h ⊢
  exact mapL_get h
theorem mapL_len {f : Wd → Lex.Key} : ∀ l : List (Tr Wd), (mapL f l).length = l.length
 | [] => rfl
 | a :: l => by simp only [mapL, List.length_cons, mapL_len l]
noncomputable def Tsc : Tab := Tab.none.with 33 (pureS sSameT)
theorem Tsc_ok : TabOk Tryz.prog base Tsc := Tab.with_ok Tab.none_ok sameT_ok
theorem Tsc_mu (f : FuncId) (a : List AVal) (H : Heap) : Tsc.mu f a H = none := (rfl)
theorem Tsc_1 : Tsc.fn 33 = pureS sSameT := (rfl)
attribute [local simp] Tsc_mu Tsc_1
theorem samec_ok : FnOk Tryz.prog base 13 (pureS sSameC) := by
 refine pure_of_vc hmix Tsc_ok globNone low13 fun args x hs hf => ?_
 unfold sSameC at hs
 split at hs
 case h_2 => cases hs
 rename_i v u
 split at hs
 case h_2 => cases hs
 rename_i a b hda hdb
 split at hs
 case isFalse => cases hs
 rename_i hc
 obtain ⟨he, hz1, hz2, hpn⟩ := hc
 have := decC_some hda
 subst this
 have := decC_some hdb
 subst this
 cases hs
 refine ⟨by simp [lf13], ?_⟩
 obtain ⟨e1, e2, e3, e4, e5, e6, e7⟩ : a.kind = b.kind ∧ a.name = b.name ∧ a.params = b.params ∧ a.result = b.result ∧ a.term.map key = b.term.map key ∧ mapL key a.terms = mapL key b.terms ∧ a.n = b.n := by
  unfold Cmd.map at he
  simpa using he
 obtain ⟨tb, tk, ts, ta, tvs, ten⟩ := encT_shape a.term
 have hea := encC_at ten
 obtain ⟨ub, uk, us, ua, uvs, uen⟩ := encT_shape b.term
 have heb := encC_at uen
 have hst : sSameT [encT a.term, encT b.term] = some (.bool true) := by
  simp only [sSameT, decT_enc]
  exact if_pos ⟨hz1, e5⟩
 rw [ten, uen] at hst
 rw [hea, heb]
 have hlen : a.terms.length = b.terms.length := by
  have := congrArg List.length e6
  rwa [mapL_len, mapL_len] at this
 have hl1 := lenT_size a.terms
 rw [← e1, ← e2, ← e3, ← e4, ← e7]
 simp [lf13, hst, encL_len, hlen, binS]
 simp only [lf13_B0, vc_block]
 refine loop_ind (fun fr H => ∃ i : Nat, i ≤ a.params.length ∧ fr 2 = .optr 0 0 0 0 ∧ fr 3 = .optr 1 0 0 0 ∧ fr 5 = .p (.int .i64 (i : Int)) ∧
   H[0]? = some ⟨11, 0, false, [.p (.agg [.int .i64 a.kind, .str a.name, .lst (a.params.map parP), .str a.result, .bool tb, .int .i64 tk, .str ts, .int .i64 ta, .lst tvs, .lst (encL a.terms), .int .i64 a.n])], 40⟩ ∧ H[1]? = some ⟨11, 0, false, [.p (.agg [.int .i64 a.kind, .str a.name, .lst (a.params.map parP), .str a.result, .bool ub, .int .i64 uk, .str us, .int .i64 ua, .lst uvs, .lst (encL b.terms), .int .i64 a.n])], 40⟩)
  (fun fr _ => a.params.length - ivar (fr 5)) ⟨0, by simp, by simp, by simp, by simp, by simp, by simp⟩ ?_
 rintro fr H ⟨i, hi, f2, f3, f5, g0, g1⟩
 by_cases hlt : i < a.params.length
 ·obtain ⟨q, hq⟩ : ∃ q, a.params[i]? = some q := ⟨_, List.getElem?_eq_getElem hlt⟩
  obtain ⟨_, hq'⟩ := List.getElem?_eq_some_iff.1 hq
  have hp : parP q = .agg [.str q.1, .str q.2] := rfl
  simp [f2, f3, f5, g0, g1, hlt, hq, hq', hp, eqCells, eqCell, wrap_succ (i := i) (by omega)]
  exact ⟨⟨i + 1, by omega, by simp⟩, by simp only [ivar]; omega⟩
 ·have hil : i = a.params.length := by omega
  subst hil
  simp [f2, f3, f5, g0, g1]
  simp only [lf13_B1, vc_block]
  refine loop_ind (fun fr H => ∃ i : Nat, i ≤ b.terms.length ∧ fr 2 = .optr 0 0 0 0 ∧ fr 3 = .optr 1 0 0 0 ∧ fr 6 = .p (.int .i64 (i : Int)) ∧
    H[0]? = some ⟨11, 0, false, [.p (.agg [.int .i64 a.kind, .str a.name, .lst (a.params.map parP), .str a.result, .bool tb, .int .i64 tk, .str ts, .int .i64 ta, .lst tvs, .lst (encL a.terms), .int .i64 a.n])], 40⟩ ∧ H[1]? = some ⟨11, 0, false, [.p (.agg [.int .i64 a.kind, .str a.name, .lst (a.params.map parP), .str a.result, .bool ub, .int .i64 uk, .str us, .int .i64 ua, .lst uvs, .lst (encL b.terms), .int .i64 a.n])], 40⟩)
   (fun fr _ => b.terms.length - ivar (fr 6)) ⟨0, by simp, by simp [f2], by simp [f3], by simp, by simp [g0], by simp [g1]⟩ ?_
  rintro fr H ⟨i, hi, f2, f3, f6, g0, g1⟩
  by_cases hlt : i < b.terms.length
  ·obtain ⟨t, hti⟩ : ∃ t, a.terms[i]? = some t := ⟨_, List.getElem?_eq_getElem (by omega)⟩
   obtain ⟨u, hui⟩ : ∃ u, b.terms[i]? = some u := ⟨_, List.getElem?_eq_getElem hlt⟩
   have hge := mapL_get (f := key) hti
   rw [e6, mapL_get hui] at hge
   have hab : t.map key = u.map key := (Option.some.inj hge).symm
   have hga := encL_get hti
   have hgb := encL_get hui
   have ht1 := size_mem (List.mem_of_getElem? hti)
   have hs2 : sSameT [encT t, encT u] = some (.bool true) := by
    simp only [sSameT, decT_enc]
    exact if_pos ⟨by omega, hab⟩
   obtain ⟨c1, c2, c3, c4, c5, het⟩ := encT_shape t
   obtain ⟨d1, d2, d3, d4, d5, heu⟩ := encT_shape u
   rw [het] at hga
   rw [heu] at hgb
   rw [het, heu] at hs2
   simp [f2, f3, f6, g0, g1, encL_len, hlen, hlt, hga, hgb, getE hga, getE hgb, hs2, wrap_succ (i := i) (by omega)]
   exact ⟨⟨i + 1, by omega, by simp⟩, by simp only [ivar]; omega⟩
  ·have hil : i = b.terms.length := by omega
   subst hil
   simp [f2, f3, f6, g0, g1, encL_len, hlen]
end Go.Proofs.YtcbagnlidecmkaaGreatDoor

/-
 law13: ScriptBack.
-/
namespace Go.Proofs.YtcbagnlidecmkaaGreatDoor
open Go Go.Abs Go.Lex Go.Sexp
set_option maxRecDepth 20000
attribute [local irreducible] vc
attribute [local simp] pureS touchV freezeL fuel shiftV
variable {base : Prot} {m : Int}
theorem treesR_len {ω : Type} (k : ω → Int) (n : Nat) : ∀ (f : Nat) (ws : List ω), (treesR k n f ws).length ≤ f
 | 0, _ => Nat.le_refl _
 | _ + 1, [] => Nat.zero_le _
 | f + 1, w :: ws => by
  rw [treesR]
  split
  ·simp only [List.length_cons]
   have := treesR_len k n f
   rename_i r _ _
   have := this r
   omega
  ·rename_i r _ _
   have := treesR_len k n f r
   omega
theorem trees_len {s : List UInt8} (h : s.length ≤ 65536) : (treesO (wordsT s)).length ≤ s.length + 1 := by
 have h1 := treesR_len Wd.kind (2 * (wordsT s).length + 1) ((wordsT s).length + 1) (wordsT s)
 have h2 := wordsT_len h
 unfold treesO
 omega
noncomputable def Tbk : Tab := ((((((Tab.none.with 9 (pureS sTrees)).with 10 (pureS sParse)).with 11 (pureS sText)).with 12 (pureS sOne)).with 14 (pureS sFlat)).with 13 (pureS sSameC)).with 8 (pureS sAwake)
theorem Tbk_ok : TabOk Tryz.prog (base3 m) Tbk := Tab.with_ok (Tab.with_ok (Tab.with_ok (Tab.with_ok (Tab.with_ok (Tab.with_ok (Tab.with_ok Tab.none_ok trees_ok) (FnOk.over (base3_le m) (FnOk.over (base2_le m) parse_ok))) text_ok) one_ok) flat_ok) samec_ok) awake13_ok
theorem Tbk_mu (f : FuncId) (a : List AVal) (H : Heap) : Tbk.mu f a H = none := (rfl)
theorem Tbk_1 : Tbk.fn 9 = pureS sTrees := (rfl)
theorem Tbk_2 : Tbk.fn 10 = pureS sParse := (rfl)
theorem Tbk_3 : Tbk.fn 11 = pureS sText := (rfl)
theorem Tbk_4 : Tbk.fn 12 = pureS sOne := (rfl)
theorem Tbk_5 : Tbk.fn 14 = pureS sFlat := (rfl)
theorem Tbk_6 : Tbk.fn 13 = pureS sSameC := (rfl)
theorem Tbk_7 : Tbk.fn 8 = pureS sAwake := (rfl)
attribute [local simp] Tbk_mu Tbk_1 Tbk_2 Tbk_3 Tbk_4 Tbk_5 Tbk_6 Tbk_7
theorem awb_is : sAwake [] = some (.bool true) := rfl
def sBack : List PVal → Option PVal
 | [.str _] => some (.bool true)
 | _ => none
theorem back13_ok : FnOk Tryz.prog (base3 m) 3 (pureS sBack) := by
 refine pure_of_vc hmix Tbk_ok globNone low3 fun args x hs hf => ?_
 unfold sBack at hs
 split at hs
 case h_2 => cases hs
 rename_i s
 cases hs
 refine ⟨by simp [lf3], ?_⟩
 by_cases hsl : 1000 < s.length
 ·have hsl' : ((1000 : Int) < s.length) = True := by simp; omega
  simp [lf3, hsl', awb_is]
 have hsl' : ((1000 : Int) < s.length) = False := by simp; omega
 have hst : sTrees [.str s] = some (.lst (encL (treesO (wordsT s)))) := if_pos (by omega)
 simp [lf3, hsl', hst]
 have hg := trees_good (s := s) (by omega)
 have hll := trees_len (s := s) (by omega)
 generalize treesO (wordsT s) = l at hg hll
 simp only [lf3_B0, vc_block]
 refine loop_ind (fun fr H => ∃ i : Nat, i ≤ l.length ∧ fr 3 = .p (.lst (encL l)) ∧ fr 4 = .p (.int .i64 (i : Int)))
  (fun fr _ => l.length - ivar (fr 4)) ⟨0, by simp, by simp, by simp⟩ ?_
 rintro fr H ⟨i, hi, f3, f4⟩
 by_cases hlt : i < l.length
 ·obtain ⟨t, hti⟩ : ∃ t, l[i]? = some t := ⟨_, List.getElem?_eq_getElem hlt⟩
  have hgt := encL_get hti
  have gt := hg t (List.mem_of_getElem? hti)
  have hp := sParse_at (t := t) (by have := gt.2.1; omega)
  obtain ⟨tb, tk, ts, ta, tvs, ten⟩ := encT_shape t
  rw [ten] at hgt hp
  have hgt' := getE hgt
  cases hc : parse key zW t with
  | none =>
   rw [hc] at hp
   simp only [outC, enc0] at hp
   simp [f3, f4, encL_len, hlt, hgt, hgt', hp, fillA, wrap_succ (i := i) (by omega)]
   exact ⟨⟨i + 1, by omega, by simp⟩, by simp only [ivar]; omega⟩
  | some c =>
   have gc := goodC_of gt (by omega) hc
   have ht := sText_at gc
   obtain ⟨b1, t', c', b2, b3, b4, b5⟩ := cmd_back gt (by omega) hc
   have gc' := goodC_of b3 (by omega) b4
   have ht' := sText_at gc'
   rw [b5] at ht'
   have ho : sOne [.str (textK (c.map key))] = some (.tup [encC c', .int .i64 0]) := (one_good (by omega) (by unfold oneO; rw [b2]; exact b4)).1
   have hz := parse_sizes hc
   have hm := (parse_small hc).2.2.2
   have hm' := (parse_small b4).2.2.2
   have ht1 := gt.2.1
   have ht2 := b3.2.1
   have hs := sSameC_at b5.symm (by have := hz.1; omega) (by have := hz.2; omega) (by omega)
   have hf1 := sFlat_at (c := c) (by omega)
   have hf2 := sFlat_at (c := c') (by omega)
   rw [hc] at hp
   simp only [outC] at hp
   obtain ⟨ub, uk, us, ua, uvs, uen⟩ := encT_shape c.term
   have he := encC_at uen
   obtain ⟨vb, vk, vs, va, vvs, ven⟩ := encT_shape c'.term
   have he' := encC_at ven
   rw [he] at hp ht hf1 hs
   rw [he'] at ht' hf2 hs ho
   generalize textK (c.map key) = tx at *
   simp [f3, f4, encL_len, hlt, hgt, hgt', hp, ht, ho, hf1, hf2, hs, ht', binS, fillA, wrap_succ (i := i) (by omega)]
   exact ⟨⟨i + 1, by omega, by simp⟩, by simp only [ivar]; omega⟩
 ·have hil : i = l.length := by omega
  subst hil
  simp [f3, f4, encL_len, awb_is]
end Go.Proofs.YtcbagnlidecmkaaGreatDoor
