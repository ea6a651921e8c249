/-
  The trees and the command of a text; law13's awake. No conditions beyond the lemmas' own hypotheses.
-/
import Derived.Test.YtcbagnlidecmkaaGreatDoorScriptE
import Derived.Test.YtcbagnlidecmkaaGreatDoorSexpE
import Derived.Test.YtcbagnlidecmkaaGreatDoorSexpD
import Derived.Test.YtcbagnlidecmkaaGreatDoorScriptL
import Derived.Test.YtcbagnlidecmkaaGreatDoorScriptP
set_option linter.unusedSimpArgs false
set_option linter.unnecessarySimpa false
set_option linter.unusedVariables false
set_option linter.constructorNameAsVariable false

/-
 law13: the trees of a text; the command of a text.
-/
namespace Go.Proofs.YtcbagnlidecmkaaGreatDoor
open Go Go.Abs Go.Lex Go.Sexp
set_option maxRecDepth 20000
attribute [local simp] pureS touchV freezeL fuel shiftV
variable {base : Prot} {m : Int}
def sTrees : List PVal → Option PVal
 | [.str s] => if s.length ≤ 65536 then some (.lst (encL (treesO (wordsT s)))) else none
 | _ => none
def Ttr : Tab := (Tab.none.with 20 (pureS sAll)).with 21 (pureS sNext)
theorem Ttr_ok : TabOk Tryz.prog base Ttr := Tab.with_ok (Tab.with_ok Tab.none_ok words_ok) rnext_ok
theorem Ttr_mu (f : FuncId) (a : List AVal) (H : Heap) : Ttr.mu f a H = none := (rfl)
theorem Ttr_1 : Ttr.fn 20 = pureS sAll := (rfl)
theorem Ttr_2 : Ttr.fn 21 = pureS sNext := (rfl)
attribute [local simp] Ttr_mu Ttr_1 Ttr_2
theorem trees_ok : FnOk Tryz.prog base 9 (pureS sTrees) := by
 refine pure_of_vc hmix Ttr_ok globNone low9 fun args x hs hf => ?_
 unfold sTrees at hs
 split at hs
 case h_2 => cases hs
 rename_i s
 split at hs
 case isFalse => cases hs
 rename_i hsl
 cases hs
 have hst : sAll [.lst (s.map b8)] = some (.tup [.lst ((wordsT s).map Wd.v), .int .i64 (allS s).2]) := by
  simp only [sAll, decB_map]; rfl
 refine ⟨by simp [lf9], ?_⟩
 simp [lf9, hst]
 have hw := wordsT_len hsl
 generalize wordsT s = ws at hw
 have hw : ws.length ≤ 65536 := by omega
 have hdw : decW (ws.map Wd.v) = some ws := decW_map ws
 simp only [lf9_B0, vc_block]
 refine loop_ind (fun fr H => ∃ (i f : Nat) (out : List (Tr Wd)), i ≤ ws.length ∧ fr 3 = .p (.lst (ws.map Wd.v)) ∧ fr 6 = .p (.int .i64 (i : Int)) ∧ OutT (fr 5) H out ∧ out.length ≤ i ∧ ws.length - i < f ∧
   treesO ws = out ++ treesR Wd.kind (2 * ws.length + 1) f (ws.drop i))
  (fun fr _ => ws.length - ivar (fr 6)) ⟨0, ws.length + 1, [], by simp, by simp, by simp, by simp; exact .inl ⟨rfl, rfl⟩, by simp, by simp, by simp [treesO]⟩ ?_
 rintro fr H ⟨i, f, out, hi, h0, h4, hout, hoi, hf', hall⟩
 obtain ⟨f, rfl⟩ : ∃ g, f = g + 1 := ⟨f - 1, by omega⟩
 by_cases hlt : i < ws.length
 ·obtain ⟨r, n1, n2, n3, n4, n5, n6⟩ := next_in hlt
  have hsn : sNext [.lst (ws.map Wd.v), .int .i64 (i : Int)] = some (.tup [outP (nextO ws i).1, .int .i64 (nextO ws i).2.1, .int .i64 (nextO ws i).2.2]) := by
   simp only [sNext, hdw, hw, if_true]
  obtain ⟨w, rest, hdr⟩ : ∃ w rest, ws.drop i = w :: rest := by
   rw [List.drop_eq_getElem_cons hlt]; exact ⟨_, _, rfl⟩
  have hrl : rest.length = ws.length - i - 1 := by
   have := congrArg List.length hdr
   rw [List.length_drop, List.length_cons] at this; omega
  have hnl := nextR_lt Wd.kind 200 (2 * ws.length) w rest
  rw [hdr] at hall n1 n2 n5 n6
  rw [treesR] at hall
  rw [n5] at hsn
  generalize hnx : nextR Wd.kind 200 (2 * ws.length + 1) (w :: rest) = nx at hall n1 n2 n5 n6 hsn hnl
  obtain ⟨o, r', e⟩ := nx
  simp only at n2 n6 hsn hnl
  subst n2
  cases o with
  | none =>
   simp only at hall
   have he' : ¬ (e = 0) := next_none hnx
   have heb : ((e : Int) == 0) = false := by simp; omega
   simp [h0, h4, hlt, hsn, outP, noP, heb]
   refine ⟨⟨ws.length - r'.length, by omega, rfl, f, out, hout.keep fun j hj => by rw [List.getElem?_append_left hj], by omega, by omega, ?_⟩, by simp only [ivar]; omega⟩
   rw [n3, hall]
  | some t =>
   have he := (n6 rfl).2
   subst he
   obtain ⟨b, k, s, a, vs, hen⟩ := encT_shape t
   obtain ⟨x', H', e1, e2⟩ := (hout.keep (H' := H ++ [rowE 0 false [treeV t], rowE 0 false [treeV t]]) fun j hj => by rw [List.getElem?_append_left hj]).app (by omega) t
   unfold rowE treeV at e1
   rw [hen] at e1
   have g2 : ∀ a b : Ent, (H ++ [a, b])[H.length + 1]? = some b := fun a b => by
    rw [List.getElem?_append_right (by omega)]; simp
   simp [h0, h4, hlt, hsn, outP, get_end, set_end, hen, fillS, List.replicate, e1, g2, -appV]
   refine ⟨⟨ws.length - r'.length, by omega, rfl, f, out ++ [t], e2, by simp; omega, by omega, ?_⟩, by simp only [ivar]; omega⟩
   rw [n3, hall]
   simp
 ·have hil : i = ws.length := by omega
  subst hil
  rw [List.drop_length] at hall
  simp only [treesR, List.append_nil] at hall
  rw [hall]
  rcases hout with ⟨h2, rfl⟩ | ⟨j, ver, h2, hk⟩
  ·simp [h0, h4, h2, encL]
  ·have etk : (out.map treeV).take out.length = out.map treeV := List.take_of_length_le (by simp)
   have em : mapO (resolveV H 7) (out.map treeV) = some (encL out) := mapO_row H 7 out
   unfold rowE at hk
   simp [h0, h4, h2, hk, etk, em]
def oneO (s : List UInt8) : Option (Cmd Wd) := match treesO (wordsT s) with
 | [t] => parse key zW t
 | _ => none
def oneP (s : List UInt8) : PVal := match treesO (wordsT s) with
 | [t] => outC (parse key zW t)
 | _ => .tup [encC (c0 zW 0), .int .i64 5]
def sOne : List PVal → Option PVal
 | [.str s] => if s.length ≤ 65536 then some (oneP s) else none
 | _ => none
def Ton : Tab := (Tab.none.with 9 (pureS sTrees)).with 10 (pureS sParse)
theorem Ton_ok : TabOk Tryz.prog (base3 m) Ton := Tab.with_ok (Tab.with_ok Tab.none_ok trees_ok) (FnOk.over (base3_le m) (FnOk.over (base2_le m) parse_ok))
theorem Ton_mu (f : FuncId) (a : List AVal) (H : Heap) : Ton.mu f a H = none := (rfl)
theorem Ton_1 : Ton.fn 9 = pureS sTrees := (rfl)
theorem Ton_2 : Ton.fn 10 = pureS sParse := (rfl)
attribute [local simp] Ton_mu Ton_1 Ton_2
theorem one_ok : FnOk Tryz.prog (base3 m) 12 (pureS sOne) := by
 refine pure_of_vc hmix Ton_ok globNone low12 fun args x hs hf => ?_
 unfold sOne at hs
 split at hs
 case h_2 => cases hs
 rename_i s
 split at hs
 case isFalse => cases hs
 rename_i hsl
 cases hs
 have hst : sTrees [.str s] = some (.lst (encL (treesO (wordsT s)))) := if_pos hsl
 refine ⟨by simp [lf12], ?_⟩
 simp [lf12, hst]
 have hg := trees_good hsl
 have hz : encC (c0 zW 0) = .agg [.int .i64 0, .str [], .lst [], .str [], .bool false, .int .i64 0, .str [], .int .i64 0, .lst [], .lst [], .int .i64 0] := rfl
 unfold oneP
 generalize treesO (wordsT s) = l at hg
 match l, hg with
 | [], _ => simp [encL, hz]
 | [t], hg =>
  obtain ⟨b, k, s', a, vs, hen⟩ := encT_shape t
  have hp := sParse_at (t := t) (by have := (hg t (by simp)).2.1; omega)
  rw [hen] at hp
  cases hc : parse key zW t with
  | none => 
   rw [hc] at hp
   simp [encL, hen, hp, hc, outC, hz]
  | some c => 
   rw [hc] at hp
   obtain ⟨tb, tk, ts, ta, tvs, ten⟩ := encT_shape c.term
   have hec := encC_at ten
   simp [encL, hen, hp, hc, outC, hec]
 | t :: u :: r, _ => 
  have h1 : (((encL r).length : Int) + 1 + 1 != 1) = true := by simp; omega
  simp [encL, h1, hz]
end Go.Proofs.YtcbagnlidecmkaaGreatDoor

/-
 law13: a command as the document's.
-/
namespace Go.Proofs.YtcbagnlidecmkaaGreatDoor
open Go Go.Abs Go.Lex Go.Sexp
set_option maxRecDepth 20000
attribute [local simp] pureS touchV freezeL fuel shiftV
variable {base : Prot} {m : Int}
def parF (ver : Nat) (fz : Bool) (l : List Par) : Ent := ⟨2, ver, fz, l.map (fun q => .p (parP q)), 76⟩
def OutQ (N : Nat) (x : AVal) (H : Heap) (l : List Par) : Prop := (x = .tight [] ∧ l = []) ∨ ∃ j ver fz, N ≤ j ∧ x = .own j 0 l.length ver ∧ H[j]? = some (parF ver fz l)
theorem OutQ.keep {N : Nat} {x : AVal} {H H' : Heap} {l : List Par} (h : OutQ N x H l) (hH : ∀ j, j < H.length → N ≤ j → H'[j]? = H[j]?) : OutQ N x H' l := by
 rcases h with h | ⟨j, ver, fz, h0, h1, h2⟩
 ·exact .inl h
 ·exact .inr ⟨j, ver, fz, h0, h1, by rw [hH _ (List.getElem?_eq_some_iff.1 h2).1 h0]; exact h2⟩
theorem OutQ.app {N : Nat} {x : AVal} {H : Heap} {l : List Par} (h : OutQ N x H l) (hN : N ≤ H.length) (hl : l.length < 1000000) (q : Par) : ∃ x' H', appV 2 32 76 x [.p (.agg [.str q.1, .str q.2])] H = some (x', H') ∧ OutQ N x' H' (l ++ [q]) ∧ H.length ≤ H'.length ∧ ∀ i, i < N → H'[i]? = H[i]? := by
 rcases h with ⟨rfl, rfl⟩ | ⟨j, ver, fz, h0, rfl, h2⟩
 ·exact ⟨.own H.length 0 1 0, H ++ [parF 0 false [q]], by simp [appV, parF, parP, maxLen], .inr ⟨H.length, 0, false, hN, rfl, by simp⟩, by simp, fun i hi => List.getElem?_append_left (by omega)⟩
 ·have hj := (List.getElem?_eq_some_iff.1 h2).1
  have m1 : (l.length + 1) * 32 ≤ 140737488355328 := by omega
  have m2 : l.length + 1 ≤ maxLen := by unfold maxLen; omega
  refine ⟨.own j 0 (l.length + 1) (ver + 1), H.set j (parF (ver + 1) fz (l ++ [q])), ?_, .inr ⟨j, ver + 1, fz, h0, by simp, by simp [hj]⟩, by simp, fun i hi => List.getElem?_set_ne (by omega)⟩
  unfold parF at h2
  simp [appV, parF, parP, h2, m1, m2]
theorem OutQ.res {N : Nat} {x : AVal} {H : Heap} {l : List Par} (h : OutQ N x H l) (n : Nat) : resolveV H (n + 2) x = some (.lst (l.map parP)) := by
 rcases h with ⟨rfl, rfl⟩ | ⟨j, ver, fz, h0, rfl, h2⟩
 ·rfl
 ·have etk : (l.map (fun q => AVal.p (parP q))).take l.length = l.map (fun q => .p (parP q)) := List.take_of_length_le (by simp)
  have em := mapO_pars H n l
  unfold parF at h2
  simp only [resolveV, h2, List.length_map, Nat.zero_add, Nat.le_refl, and_self, if_true, List.drop_zero, etk, em]
theorem OutQ.touch {N : Nat} {x : AVal} {H : Heap} {l : List Par} (h : OutQ N x H l) (n : Nat) : ∀ i ∈ touchV H (n + 1) x, N ≤ i := by
 rcases h with ⟨rfl, rfl⟩ | ⟨j, ver, fz, h0, rfl, h2⟩
 ·intro i hi; cases hi
 ·intro i hi
  unfold parF at h2
  simp only [touchV, h2, List.mem_cons, List.mem_flatMap] at hi
  rcases hi with rfl | ⟨y, hy, hi⟩
  ·exact h0
  ·have hy' := List.mem_of_mem_take hy
   simp only [List.drop_zero, List.mem_map] at hy'
   obtain ⟨q, _, rfl⟩ := hy'
   cases n <;> cases hi
def sFlat : List PVal → Option PVal
 | [v] => match decC v with
  | some c => if c.params.length ≤ 100000 then some v else none
  | none => none
 | _ => none
theorem sFlat_at {c : Cmd Wd} (h : c.params.length ≤ 100000) : sFlat [encC c] = some (encC c) := by
 simp only [sFlat, decC_enc]
 exact if_pos h
def Tfl : Tab := Tab.none
theorem Tfl_ok : TabOk Tryz.prog base Tfl := Tab.none_ok
theorem Tfl_mu (f : FuncId) (a : List AVal) (H : Heap) : Tfl.mu f a H = none := (rfl)
attribute [local simp] Tfl_mu
theorem flat_ok : FnOk Tryz.prog base 14 (pureS sFlat) := by
 refine pure_of_vc hmix Tfl_ok globNone low14 fun args x hs hf => ?_
 unfold sFlat at hs
 split at hs
 case h_2 => cases hs
 rename_i v
 split at hs
 case h_2 => cases hs
 rename_i c hd
 split at hs
 case isFalse => cases hs
 rename_i hpn
 have := decC_some hd
 subst this
 cases hs
 refine ⟨by simp [lf14], ?_⟩
 obtain ⟨tb, tk, ts, ta, tvs, ten⟩ := encT_shape c.term
 have hec := encC_at ten
 rw [hec]
 simp [lf14]
 simp only [lf14_B0, vc_block]
 refine loop_ind (fun fr H => ∃ (i : Nat) (x : AVal), i ≤ c.params.length ∧ fr 1 = .optr 0 0 0 0 ∧ fr 2 = .optr 1 0 0 0 ∧ fr 3 = .optr 2 0 0 0 ∧ fr 4 = .p (.int .i64 (i : Int)) ∧
   H[0]? = some ⟨11, 0, false, [.p (.agg [.int .i64 c.kind, .str c.name, .lst (c.params.map parP), .str c.result, .bool tb, .int .i64 tk, .str ts, .int .i64 ta, .lst tvs, .lst (encL c.terms), .int .i64 c.n])], 31⟩ ∧ H[1]? = some ⟨11, 0, false, [.agg [.p (.int .i64 0), .p (.str []), .tight [], .p (.str []), .p (.bool false), .p (.int .i64 0), .p (.str []), .p (.int .i64 0), .tight [], .tight [], .p (.int .i64 0)]], 40⟩ ∧ H[2]? = some ⟨11, 0, false, [.agg [.p (.int .i64 c.kind), .p (.str c.name), x, .p (.str c.result), .p (.bool tb), .p (.int .i64 tk), .p (.str ts), .p (.int .i64 ta), .p (.lst tvs), .p (.lst (encL c.terms)), .p (.int .i64 c.n)]], 40⟩ ∧ OutQ 3 x H (c.params.take i) ∧ 3 ≤ H.length)
  (fun fr _ => c.params.length - ivar (fr 4)) ⟨0, .tight [], by simp, by simp, by simp, by simp, by simp, by simp, by simp, by simp, .inl ⟨rfl, rfl⟩, by simp⟩ ?_
 rintro fr H ⟨i, x, hi, f1, f2, f3, f4, g0, g1, g2, g3, g4⟩
 by_cases hlt : i < c.params.length
 ·obtain ⟨q, hq⟩ : ∃ q, c.params[i]? = some q := ⟨_, List.getElem?_eq_getElem hlt⟩
  obtain ⟨_, hq'⟩ := List.getElem?_eq_some_iff.1 hq
  have hp : parP q = .agg [.str q.1, .str q.2] := rfl
  have hnx : c.params.take (i + 1) = c.params.take i ++ [q] := by
   rw [List.take_add_one, hq]; rfl
  simp [f1, f2, f3, f4, g0, hlt]
  rw [vc_regionW]
  refine ⟨[], ?_⟩
  obtain ⟨x', H', e1, e2, e3, e4⟩ := (g3.keep (H' := H ++ [parF 0 false [q]]) fun j hj _ => by rw [List.getElem?_append_left hj]).app (by simp; omega) (by rw [List.length_take]; omega) q
  rw [← hnx] at e2
  have ga : ∀ (k : Nat) (E : Heap), k < 3 → (H ++ E)[k]? = H[k]? := fun k E hk => List.getElem?_append_left (by omega)
  have b2 := (e4 2 (by omega)).trans ((ga 2 _ (by omega)).trans g2)
  have b0 := (e4 0 (by omega)).trans ((ga 0 _ (by omega)).trans g0)
  have b1 := (e4 1 (by omega)).trans ((ga 1 _ (by omega)).trans g1)
  have hl3 : 3 ≤ H'.length := by simp at e3; omega
  unfold parF parP at e1
  simp only [List.map_cons, List.map_nil] at e1
  have l0 : (0 : Nat) < H.length := by omega
  have l2 : (2 : Nat) < H.length := by omega
  rcases e2 with ⟨_, hnil⟩ | ⟨j', ver', fz', q1, rfl, q3⟩
  ·have := congrArg List.length hnil
   rw [List.length_take, List.length_nil] at this; omega
  simp [f1, f2, f3, f4, g0, g2, ga, hq, hp, e1, b2, fillS, fillA, -appV, wrap_succ (i := i) (by omega)]
  exact ⟨by omega, fun k hk => List.getElem?_append_left hk, ⟨i + 1, by omega, by simp, b0, b1, _, List.getElem?_set_self (by omega), .inr ⟨j', ver', fz', q1, by rw [List.length_take], by rw [List.getElem?_set_ne (by omega)]; exact q3⟩, hl3⟩, by simp only [ivar]; omega⟩
 ·have hil : i = c.params.length := by omega
  subst hil
  rw [List.take_length] at g3
  have gs : ∀ e : Ent, (H.set 1 e)[1]? = some e := fun e => List.getElem?_set_self (by omega)
  have hres := fun e : Ent => (g3.keep (H' := H.set 1 e) fun j hj h3 => List.getElem?_set_ne (by omega)).res 5
  have hrs : ∀ (H : Heap) (x : PVal), resolveV H 7 (.p x) = some x := fun _ _ => rfl
  rcases g3 with ⟨rfl, hnil⟩ | ⟨j', ver', fz', q1, rfl, q3⟩
  ·simp [f1, f2, f3, f4, g0, g1, g2, gs, hnil]
  ·simp [f1, f2, f3, f4, g0, g1, g2, gs, -resolveV]
   have hag : ∀ (H : Heap) (l : List AVal), resolveV H 8 (.agg l) = (match mapO (resolveV H 7) l with | some ps => some (.agg ps) | none => none) := fun _ _ => rfl
   have hx := hres ⟨11, 0, false, [.agg [.p (.int .i64 c.kind), .p (.str c.name), .own j' 0 c.params.length ver', .p (.str c.result), .p (.bool tb), .p (.int .i64 tk), .p (.str ts), .p (.int .i64 ta), .p (.lst tvs), .p (.lst (encL c.terms)), .p (.int .i64 c.n)]], 40⟩
   rw [hag]
   simp only [mapO, hrs, hx]
end Go.Proofs.YtcbagnlidecmkaaGreatDoor

/-
 law13: what is told of the command of a text; what the document fixes.
-/
namespace Go.Proofs.YtcbagnlidecmkaaGreatDoor
open Go Go.Abs Go.Lex Go.Sexp
set_option maxRecDepth 20000
attribute [local simp] pureS touchV freezeL fuel shiftV
variable {base : Prot} {m : Int}
theorem goodC_of {n : Nat} {t : Tr Wd} {c : Cmd Wd} (hg : GoodT n t) (hn : n ≤ 8000) (h : parse key zW t = some c) : GoodC c := by
 obtain ⟨g1, g2, g3, g4⟩ := hg
 obtain ⟨k1, k2, k3, k4⟩ := parse_small h
 have hm := parse_map (p := key) (q := id) (f := key) (fun _ => rfl) zW t
 rw [h] at hm
 obtain ⟨a1, a2, a3⟩ := form_good (t := t.map key) (c := c.map key) hm g3 (by rw [deep_mapK]; exact g1)
 exact ⟨k1, k2, a1, by omega, k3, by omega⟩
theorem sText_at {c : Cmd Wd} (h : GoodC c) : sText [encC c] = some (.str (textK (c.map key))) := by
 simp only [sText, decC_enc]
 exact if_pos h
theorem one_good {s : List UInt8} (hs : s.length ≤ 8000) {c : Cmd Wd} (h : oneO s = some c) : sOne [.str s] = some (.tup [encC c, .int .i64 0]) ∧ GoodC c := by
 unfold oneO at h
 have hg := trees_good (s := s) (by omega)
 have e : sOne [.str s] = some (oneP s) := if_pos (by omega)
 rw [e]
 unfold oneP
 split at h
 ·rename_i t ht
  rw [ht] at hg
  simp only [h, outC]
  exact ⟨trivial, goodC_of (hg t (by simp)) hs h⟩
 ·cases h
def badO (s : List UInt8) : Bool := match treesO (wordsT s) with
 | [t] => (parse key zW t).isNone
 | _ => false
theorem one_bad {s : List UInt8} (hs : s.length ≤ 8000) (h : badO s = true) : sOne [.str s] = some (.tup [encC (c0 zW 0), .int .i64 2]) := by
 unfold badO at h
 have e : sOne [.str s] = some (oneP s) := if_pos (by omega)
 rw [e]
 unfold oneP
 split at h
 ·rename_i t ht
  have h' := Option.isNone_iff_eq_none.1 h
  try rw [ht]
  show some (outC (parse key zW t)) = _
  rw [h']; rfl
 ·cases h
def brief (c : Cmd Wd) : Nat × List Par × List UInt8 × Nat × Nat × List UInt8 := (c.kind, c.params, c.result, c.n, c.terms.length, textK (c.map key))
theorem brief_at {s : List UInt8} {q : Nat × List Par × List UInt8 × Nat × Nat × List UInt8} (h : (oneO s).map brief = some q) (hs : s.length ≤ 8000) :
  ∃ c, sOne [.str s] = some (.tup [encC c, .int .i64 0]) ∧ sText [encC c] = some (.str q.2.2.2.2.2) ∧ c.kind = q.1 ∧ c.params = q.2.1 ∧ c.result = q.2.2.1 ∧ c.n = q.2.2.2.1 ∧ c.terms.length = q.2.2.2.2.1 := by
 obtain ⟨c, h1, rfl⟩ := Option.map_eq_some_iff.1 h
 obtain ⟨h2, h3⟩ := one_good hs h1
 exact ⟨c, h2, sText_at h3, rfl, rfl, rfl, rfl, rfl⟩
theorem enc0 : encC (c0 zW 0) = .agg [.int .i64 0, .str [], .lst [], .str [], .bool false, .int .i64 0, .str [], .int .i64 0, .lst [], .lst [], .int .i64 0] := rfl
theorem aw_0 : (oneO [40, 100, 101, 99, 108, 97, 114, 101, 45, 102, 117, 110, 32, 102, 32, 40, 82, 101, 97, 108, 32, 85, 41, 32, 66, 111, 111, 108, 41]).map brief = some (5, [([], [82, 101, 97, 108]), ([], [85])], [66, 111, 111, 108], 0, 0, [40, 100, 101, 99, 108, 97, 114, 101, 45, 102, 117, 110, 32, 102, 32, 40, 82, 101, 97, 108, 32, 85, 41, 32, 66, 111, 111, 108, 41]) := by kernel_rfl
theorem aw_1 : (oneO [40, 100, 101, 102, 105, 110, 101, 45, 102, 117, 110, 32, 103, 32, 40, 40, 120, 32, 82, 101, 97, 108, 41, 41, 32, 82, 101, 97, 108, 32, 40, 43, 32, 120, 32, 49, 41, 41]).map brief = some (6, [([120], [82, 101, 97, 108])], [82, 101, 97, 108], 0, 0, [40, 100, 101, 102, 105, 110, 101, 45, 102, 117, 110, 32, 103, 32, 40, 40, 120, 32, 82, 101, 97, 108, 41, 41, 32, 82, 101, 97, 108, 32, 40, 43, 32, 120, 32, 49, 41, 41]) := by kernel_rfl
theorem aw_2 : badO [40, 100, 101, 102, 105, 110, 101, 45, 102, 117, 110, 32, 103, 32, 40, 40, 120, 32, 82, 101, 97, 108, 41, 32, 40, 120, 32, 85, 41, 41, 32, 82, 101, 97, 108, 32, 120, 41] = true := by kernel_rfl
theorem aw_3 : (oneO [40, 112, 117, 115, 104, 41]).map brief = some (8, [], [], 1, 0, [40, 112, 117, 115, 104, 32, 49, 41]) := by kernel_rfl
theorem aw_4 : badO [40, 112, 111, 112, 32, 49, 48, 48, 49, 41] = true := by kernel_rfl
theorem aw_5 : (oneO [40, 103, 101, 116, 45, 118, 97, 108, 117, 101, 32, 40, 120, 32, 40, 102, 32, 121, 41, 41, 41]).map brief = some (12, [], [], 0, 2, [40, 103, 101, 116, 45, 118, 97, 108, 117, 101, 32, 40, 120, 32, 40, 102, 32, 121, 41, 41, 41]) := by kernel_rfl
theorem aw_6 : badO [40, 99, 104, 101, 99, 107, 45, 115, 97, 116, 32, 120, 41] = true := by kernel_rfl
theorem aw_7 : (oneO [40, 100, 101, 99, 108, 97, 114, 101, 45, 99, 111, 110, 115, 116, 32, 120, 32, 82, 101, 97, 108, 41]).map brief = some (5, [], [82, 101, 97, 108], 0, 0, [40, 100, 101, 99, 108, 97, 114, 101, 45, 102, 117, 110, 32, 120, 32, 40, 41, 32, 82, 101, 97, 108, 41]) := by kernel_rfl
noncomputable def Taw : Tab := (Tab.none.with 12 (pureS sOne)).with 11 (pureS sText)
theorem Taw_ok : TabOk Tryz.prog (base3 m) Taw := Tab.with_ok (Tab.with_ok Tab.none_ok one_ok) text_ok
theorem Taw_mu (f : FuncId) (a : List AVal) (H : Heap) : Taw.mu f a H = none := (rfl)
theorem Taw_1 : Taw.fn 12 = pureS sOne := (rfl)
theorem Taw_2 : Taw.fn 11 = pureS sText := (rfl)
attribute [local simp] Taw_mu Taw_1 Taw_2
def sAwake : List PVal → Option PVal
 | [] => some (.bool true)
 | _ => none
theorem awake13_ok : FnOk Tryz.prog (base3 m) 8 (pureS sAwake) := by
 refine pure_of_vc hmix Taw_ok globNone low8 fun args x hs hf => ?_
 unfold sAwake at hs
 split at hs
 case h_2 => cases hs
 cases hs
 refine ⟨by simp [lf8], ?_⟩
 obtain ⟨c0, o0, t0, k0, p0, r0, n0, l0⟩ := brief_at aw_0 (by decide)
 obtain ⟨tb0, tk0, ts0, ta0, tv0, en0⟩ := encT_shape c0.term
 have e0 := encC_at en0
 simp only at t0 k0 p0 r0 n0 l0
 rw [k0, p0, r0, n0] at e0
 rw [e0] at o0 t0
 have m0 : (encL c0.terms).length = c0.terms.length := encL_len _
 rw [l0] at m0
 simp only [List.map_cons, List.map_nil, parP, show ((0:Nat):Int) = 0 from rfl, show ((1:Nat):Int) = 1 from rfl, show ((5:Nat):Int) = 5 from rfl, show ((6:Nat):Int) = 6 from rfl, show ((8:Nat):Int) = 8 from rfl, show ((12:Nat):Int) = 12 from rfl] at o0 t0
 obtain ⟨c1, o1, t1, k1, p1, r1, n1, l1⟩ := brief_at aw_1 (by decide)
 obtain ⟨tb1, tk1, ts1, ta1, tv1, en1⟩ := encT_shape c1.term
 have e1 := encC_at en1
 simp only at t1 k1 p1 r1 n1 l1
 rw [k1, p1, r1, n1] at e1
 rw [e1] at o1 t1
 have m1 : (encL c1.terms).length = c1.terms.length := encL_len _
 rw [l1] at m1
 simp only [List.map_cons, List.map_nil, parP, show ((0:Nat):Int) = 0 from rfl, show ((1:Nat):Int) = 1 from rfl, show ((5:Nat):Int) = 5 from rfl, show ((6:Nat):Int) = 6 from rfl, show ((8:Nat):Int) = 8 from rfl, show ((12:Nat):Int) = 12 from rfl] at o1 t1
 have o2 := one_bad (by decide) aw_2
 rw [enc0] at o2
 obtain ⟨c3, o3, t3, k3, p3, r3, n3, l3⟩ := brief_at aw_3 (by decide)
 obtain ⟨tb3, tk3, ts3, ta3, tv3, en3⟩ := encT_shape c3.term
 have e3 := encC_at en3
 simp only at t3 k3 p3 r3 n3 l3
 rw [k3, p3, r3, n3] at e3
 rw [e3] at o3 t3
 have m3 : (encL c3.terms).length = c3.terms.length := encL_len _
 rw [l3] at m3
 simp only [List.map_cons, List.map_nil, parP, show ((0:Nat):Int) = 0 from rfl, show ((1:Nat):Int) = 1 from rfl, show ((5:Nat):Int) = 5 from rfl, show ((6:Nat):Int) = 6 from rfl, show ((8:Nat):Int) = 8 from rfl, show ((12:Nat):Int) = 12 from rfl] at o3 t3
 have o4 := one_bad (by decide) aw_4
 rw [enc0] at o4
 obtain ⟨c5, o5, t5, k5, p5, r5, n5, l5⟩ := brief_at aw_5 (by decide)
 obtain ⟨tb5, tk5, ts5, ta5, tv5, en5⟩ := encT_shape c5.term
 have e5 := encC_at en5
 simp only at t5 k5 p5 r5 n5 l5
 rw [k5, p5, r5, n5] at e5
 rw [e5] at o5 t5
 have m5 : (encL c5.terms).length = c5.terms.length := encL_len _
 rw [l5] at m5
 simp only [List.map_cons, List.map_nil, parP, show ((0:Nat):Int) = 0 from rfl, show ((1:Nat):Int) = 1 from rfl, show ((5:Nat):Int) = 5 from rfl, show ((6:Nat):Int) = 6 from rfl, show ((8:Nat):Int) = 8 from rfl, show ((12:Nat):Int) = 12 from rfl] at o5 t5
 have o6 := one_bad (by decide) aw_6
 rw [enc0] at o6
 obtain ⟨c7, o7, t7, k7, p7, r7, n7, l7⟩ := brief_at aw_7 (by decide)
 obtain ⟨tb7, tk7, ts7, ta7, tv7, en7⟩ := encT_shape c7.term
 have e7 := encC_at en7
 simp only at t7 k7 p7 r7 n7 l7
 rw [k7, p7, r7, n7] at e7
 rw [e7] at o7 t7
 have m7 : (encL c7.terms).length = c7.terms.length := encL_len _
 rw [l7] at m7
 simp only [List.map_cons, List.map_nil, parP, show ((0:Nat):Int) = 0 from rfl, show ((1:Nat):Int) = 1 from rfl, show ((5:Nat):Int) = 5 from rfl, show ((6:Nat):Int) = 6 from rfl, show ((8:Nat):Int) = 8 from rfl, show ((12:Nat):Int) = 12 from rfl] at o7 t7
 simp [lf8, o0, o1, o2, o3, o4, o5, o6, o7, m5, t7, binS, fillS, Option.map]
end Go.Proofs.YtcbagnlidecmkaaGreatDoor
