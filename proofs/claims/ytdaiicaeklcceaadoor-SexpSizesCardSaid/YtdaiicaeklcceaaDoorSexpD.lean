/-
  What sexp.All, Size and Deep compute. No conditions beyond the lemmas' own hypotheses.
-/
import Derived.Test.YtdaiicaeklcceaaDoorSexpC
import Derived.Test.YtdaiicaeklcceaaDoorAbsFour
set_option linter.unusedSimpArgs false
set_option linter.unnecessarySimpa false
set_option linter.unusedVariables false
set_option linter.constructorNameAsVariable false

/-
 sexp.All: its contract.
-/
namespace Go.Proofs.YtdaiicaeklcceaaDoor
open Go Go.Abs Go.Lex Go.Sexp
variable {base : Prot}
set_option maxRecDepth 20000
attribute [local simp] pureS touchV freezeL fuel shiftV
def OutT (x : AVal) (H : Heap) (l : List (Tr Wd)) : Prop := (x = .tight [] ∧ l = []) ∨ ∃ j ver, x = .own j 0 l.length ver ∧ H[j]? = some (rowE ver false (l.map treeV))
theorem OutT.keep {x : AVal} {H H' : Heap} {l : List (Tr Wd)} (h : OutT x H l) (hH : ∀ j, j < H.length → H'[j]? = H[j]?) : OutT x H' l := by
 rcases h with h | ⟨j, ver, h1, h2⟩
 ·exact .inl h
 ·exact .inr ⟨j, ver, h1, by rw [hH _ (List.getElem?_eq_some_iff.1 h2).1]; exact h2⟩
theorem OutT.app {x : AVal} {H : Heap} {l : List (Tr Wd)} (h : OutT x H l) (hl : l.length < 65536) (t : Tr Wd) : ∃ x' H', appV 5 64 29 x [treeV t] H = some (x', H') ∧ OutT x' H' (l ++ [t]) := by
 obtain ⟨b, k, s, a, vs, hen⟩ := encT_shape t
 rcases h with ⟨rfl, rfl⟩ | ⟨j, ver, rfl, h2⟩
 ·exact ⟨.own H.length 0 1 0, H ++ [rowE 0 false [treeV t]], by simp [appV, treeV, hen, rowE, maxLen], .inr ⟨H.length, 0, rfl, by simp⟩⟩
 ·have hj := (List.getElem?_eq_some_iff.1 h2).1
  have m1 : (l.length + 1) * 64 ≤ 140737488355328 := by omega
  have m2 : l.length + 1 ≤ maxLen := by unfold maxLen; omega
  refine ⟨.own j 0 (l.length + 1) (ver + 1), H.set j (rowE (ver + 1) false (l.map treeV ++ [treeV t])), ?_, .inr ⟨j, ver + 1, by simp, by simp [hj]⟩⟩
  unfold rowE at h2
  simp [appV, treeV, hen, rowE, h2, m1, m2]
theorem OutT.res {x : AVal} {H : Heap} {l : List (Tr Wd)} (h : OutT x H l) (n : Nat) : resolveV H (n + 1) x = some (.lst (encL l)) := by
 rcases h with ⟨rfl, rfl⟩ | ⟨j, ver, rfl, h2⟩
 ·rfl
 ·have etk : (l.map treeV).take l.length = l.map treeV := List.take_of_length_le (by simp)
  have em := mapO_row H n l
  unfold rowE at h2
  simp only [resolveV, h2, List.length_map, Nat.zero_add, Nat.le_refl, and_self, if_true, List.drop_zero, etk, em]
def allO (ws : List Wd) : Option (List (Tr Wd)) × Nat := allR Wd.kind 200 (2 * ws.length + 1) (ws.length + 1) ws
def allP' : Option (List (Tr Wd)) → PVal
 | some l => .lst (encL l)
 | none => .lst []
def sAllT : List PVal → Option PVal
 | [.lst vs] => match decW vs with
  | some ws => if ws.length ≤ 65536 then some (.tup [allP' (allO ws).1, .int .i64 (allO ws).2]) else none
  | none => none
 | _ => none
def Tna : Tab := Tab.none.with 9 (pureS sNext)
theorem Tna_ok : TabOk Tryd.prog base Tna := Tab.with_ok Tab.none_ok next_ok
theorem Tna_mu (f : FuncId) (a : List AVal) (H : Heap) : Tna.mu f a H = none := (rfl)
theorem Tna_9 : Tna.fn 9 = pureS sNext := (rfl)
attribute [local simp] Tna_mu Tna_9
theorem next_in {ws : List Wd} {i : Nat} (hi : i < ws.length) : ∃ r, run Wd.kind 200 (ws.drop i) [] false = nextR Wd.kind 200 (2 * ws.length + 1) (ws.drop i) ∧ (nextR Wd.kind 200 (2 * ws.length + 1) (ws.drop i)).2.1 = r ∧ ws.drop (ws.length - r.length) = r ∧ r.length ≤ ws.length - i ∧
  nextO ws i = ((nextR Wd.kind 200 (2 * ws.length + 1) (ws.drop i)).1, ((ws.length - r.length : Nat) : Int), (nextR Wd.kind 200 (2 * ws.length + 1) (ws.drop i)).2.2) ∧ ((nextR Wd.kind 200 (2 * ws.length + 1) (ws.drop i)).1.isSome = true → r.length < ws.length - i ∧ (nextR Wd.kind 200 (2 * ws.length + 1) (ws.drop i)).2.2 = 0) := by
 have h1 := next_eq Wd.kind (m := 200) (n := 2 * ws.length + 1) (ws := ws.drop i) (by rw [List.length_drop]; omega)
 have hs := nextR_suffix Wd.kind 200 (2 * ws.length + 1) (ws.drop i)
 have hs2 := hs.trans (List.drop_suffix i ws)
 have hl := hs.length_le
 rw [List.length_drop] at hl
 refine ⟨_, h1, rfl, (List.suffix_iff_eq_drop.1 hs2).symm, hl, ?_, fun hh => ?_⟩
 ·unfold nextO
  rw [if_neg (by omega)]
  simp only [Int.toNat_natCast, h1]
  congr 2
  omega
 ·obtain ⟨t, ht⟩ := Option.isSome_iff_exists.1 hh
  have he : nextR Wd.kind 200 (2 * ws.length + 1) (ws.drop i) = (some t, (nextR Wd.kind 200 (2 * ws.length + 1) (ws.drop i)).2.1, (nextR Wd.kind 200 (2 * ws.length + 1) (ws.drop i)).2.2) := by rw [← ht]
  obtain ⟨a1, a2, a3, a4, a5⟩ := next_some Wd.kind he
  have := (treeR_short Wd.kind (2 * ws.length + 1)).1 (ws.drop i) a1
  rw [List.length_drop, a3] at this
  exact ⟨this, a5⟩
theorem next_none {k : Wd → Int} {m n : Nat} {ws r : List Wd} {e : Nat} (h : nextR k m n ws = (none, r, e)) : e ≠ 0 := by
 unfold nextR at h
 repeat' split at h
 all_goals first | (cases h; done) | (cases h; decide)
theorem set_end (H : Heap) (a b : Ent) : (H ++ [a]).set H.length b = H ++ [b] := by
 rw [List.set_append_right _ _ (Nat.le_refl _), Nat.sub_self]; rfl
theorem get_end (H : Heap) (a : Ent) : (H ++ [a])[H.length]? = some a := by simp
theorem all_ok : FnOk Tryd.prog base 12 (pureS sAllT) := by
 refine pure_of_vc hmix Tna_ok globNone low12 fun args x hs hf => ?_
 unfold sAllT at hs
 split at hs
 case h_2 => cases hs
 rename_i vs
 split at hs
 case h_2 => cases hs
 rename_i ws hd
 split at hs
 case isFalse => cases hs
 rename_i hw
 have := decW_some hd
 subst this
 cases hs
 have hdw : decW (ws.map Wd.v) = some ws := decW_map ws
 refine ⟨by simp [lf12], ?_⟩
 simp [lf12]
 simp only [lf12_B0, vc_block]
 refine loop_ind (fun fr H => ∃ (i f : Nat) (out : List (Tr Wd)), i ≤ ws.length ∧ fr 0 = .p (.lst (ws.map Wd.v)) ∧ fr 4 = .p (.int .i64 (i : Int)) ∧ OutT (fr 2) H out ∧ out.length ≤ i ∧ ws.length - i < f ∧
   allO ws = ((allR Wd.kind 200 (2 * ws.length + 1) f (ws.drop i)).1.map (out ++ ·), (allR Wd.kind 200 (2 * ws.length + 1) f (ws.drop i)).2))
  (fun fr _ => ws.length - ivar (fr 4)) ⟨0, ws.length + 1, [], by simp, by simp, by simp, by simp; exact .inl ⟨rfl, rfl⟩, by simp, by simp, by simp [allO]⟩ ?_
 rintro fr H ⟨i, f, out, hi, h0, h4, hout, hoi, hf', hall⟩
 obtain ⟨f, rfl⟩ : ∃ g, f = g + 1 := ⟨f - 1, by omega⟩
 by_cases hlt : i < ws.length
 ·obtain ⟨r, n1, n2, n3, n4, n5, n6⟩ := next_in hlt
  have hsn : sNext [.lst (ws.map Wd.v), .int .i64 (i : Int)] = some (.tup [outP (nextO ws i).1, .int .i64 (nextO ws i).2.1, .int .i64 (nextO ws i).2.2]) := by
   simp only [sNext, hdw, hw, if_true]
  obtain ⟨w, rest, hdr⟩ : ∃ w rest, ws.drop i = w :: rest := by
   rw [List.drop_eq_getElem_cons hlt]; exact ⟨_, _, rfl⟩
  rw [hdr] at hall n1 n2 n5 n6
  unfold allR at hall
  rw [n5] at hsn
  generalize hnx : nextR Wd.kind 200 (2 * ws.length + 1) (w :: rest) = nx at hall n1 n2 n5 n6 hsn
  obtain ⟨o, r', e⟩ := nx
  simp only at n2 n6 hsn
  subst n2
  cases o with
  | none =>
   simp only [Option.map_none] at hall
   rw [hall]
   have he : ((e : Int) != 0) = true := by
    have := next_none hnx
    simp; omega
   have he' : ¬ (e = 0) := next_none hnx
   simp [h0, h4, hlt, hsn, outP, noP, get_end, set_end, allP', he, he', encL]
  | some t =>
   have he := (n6 rfl).2
   subst he
   obtain ⟨b, k, s, a, vs, hen⟩ := encT_shape t
   obtain ⟨x', H', e1, e2⟩ := (hout.keep (H' := H ++ [rowE 0 false [treeV t], rowE 0 false [treeV t]]) fun j hj => by rw [List.getElem?_append_left hj]).app (by omega) t
   unfold rowE treeV at e1
   rw [hen] at e1
   have g2 : ∀ a b : Ent, (H ++ [a, b])[H.length + 1]? = some b := fun a b => by
    rw [List.getElem?_append_right (by omega)]; simp
   simp [h0, h4, hlt, hsn, outP, get_end, set_end, hen, fillS, List.replicate, e1, g2, -appV]
   have hlr := (n6 rfl).1
   refine ⟨⟨ws.length - r'.length, by omega, rfl, f, out ++ [t], e2, by simp; omega, by omega, ?_⟩, by simp only [ivar]; omega⟩
   rw [n3, hall]
   dsimp only
   generalize allR Wd.kind 200 (2 * ws.length + 1) f r' = q
   obtain ⟨o, e⟩ := q
   cases o <;> simp
 ·have hil : i = ws.length := by omega
  subst hil
  rw [List.drop_length] at hall
  simp only [allR, Option.map_some, List.append_nil] at hall
  rw [hall]
  have hres := hout.res 6
  rcases hout with ⟨h2, rfl⟩ | ⟨j, ver, h2, hk⟩
  ·simp [h0, h4, h2, allP', encL]
  ·rw [h2] at hres
   simp [h0, h4, h2, -resolveV]
   simp only [resolveV, mapO] at hres ⊢
   simp only [hres, allP']
end Go.Proofs.YtdaiicaeklcceaaDoor

/-
 sexp.Size and Deep: their contracts.
-/
namespace Go.Proofs.YtdaiicaeklcceaaDoor
open Go Go.Abs Go.Lex Go.Sexp
variable {base : Prot}
set_option maxRecDepth 20000
attribute [local simp] pureS touchV freezeL fuel shiftV
theorem encL_get {l : List (Tr Wd)} {i : Nat} {t : Tr Wd} (h : l[i]? = some t) : (encL l)[i]? = some (encT t) := by
 rw [encL_map, List.getElem?_map, h]; rfl
theorem encL_len (l : List (Tr Wd)) : (encL l).length = l.length := by rw [encL_map, List.length_map]
theorem take_next {l : List (Tr Wd)} {i : Nat} {t : Tr Wd} (h : l[i]? = some t) : l.take (i + 1) = l.take i ++ [t] := by
 rw [List.take_add_one, h]; rfl
theorem size_mem {l : List (Tr Wd)} {t : Tr Wd} (h : t ∈ l) : t.size ≤ sizeL l := by
 induction l with
 | nil => cases h
 | cons a l ih =>
  simp only [sizeL]
  rcases List.mem_cons.1 h with rfl | h
  ·omega
  ·have := ih h; omega
theorem len_size : ∀ l : List (Tr Wd), l.length ≤ sizeL l
 | [] => Nat.le_refl _
 | t :: l => by
  have := len_size l
  have h1 : 1 ≤ t.size := by cases t <;> simp [Tr.size]
  simp only [List.length_cons, sizeL]; omega
theorem sizeL_take (l : List (Tr Wd)) (i : Nat) : sizeL (l.take i) ≤ sizeL l := by
 have := sizeL_append (l.take i) (l.drop i)
 rw [List.take_append_drop] at this
 omega
def sSizeM (m : Nat) : List PVal → Option PVal
 | [v] => match decT v with
  | some t => if t.size < m ∧ t.size ≤ 1000000 then some (.int .i64 t.size) else none
  | none => none
 | _ => none
def sSize : List PVal → Option PVal
 | [v] => match decT v with
  | some t => if t.size ≤ 1000000 then some (.int .i64 t.size) else none
  | none => none
 | _ => none
theorem size_step (m : Nat) (ih : FnOk Tryd.prog base 15 (pureS (sSizeM m))) : FnOk Tryd.prog base 15 (pureS (sSizeM (m + 1))) := by
 have hT : TabOk Tryd.prog base (Tab.none.with 15 (pureS (sSizeM m))) := Tab.with_ok Tab.none_ok ih
 have hmu : ∀ (f : FuncId) (a : List AVal) (H : Heap), (Tab.none.with 15 (pureS (sSizeM m))).mu f a H = none := fun _ _ _ => rfl
 have hfn : (Tab.none.with 15 (pureS (sSizeM m))).fn 15 = pureS (sSizeM m) := by unfold Tab.with; funext a; simp
 generalize Tab.none.with 15 (pureS (sSizeM m)) = T at hT hmu hfn
 refine pure_of_vc hmix hT globNone low15 fun args x hs hf => ?_
 unfold sSizeM at hs
 split at hs
 case h_2 => cases hs
 rename_i v
 split at hs
 case h_2 => cases hs
 rename_i t hd
 split at hs
 case isFalse => cases hs
 rename_i hw
 have := decT_some hd
 subst this
 cases hs
 refine ⟨by simp [lf15], ?_⟩
 cases t with
 | leaf w => simp [lf15, encT, Tr.size]
 | list kids =>
  simp only [Tr.size] at hw
  have hkl := len_size kids
  simp [lf15, encT, Tr.size]
  simp only [lf15_B0, vc_block]
  refine loop_ind (fun fr H => ∃ i : Nat, i ≤ kids.length ∧ fr 9 = .p (.lst (encL kids)) ∧ fr 10 = .p (.int .i64 (kids.length : Int)) ∧ fr 11 = .p (.int .i64 (i : Int)) ∧ fr 3 = .p (.int .i64 ((1 + sizeL (kids.take i) : Nat) : Int)))
   (fun fr _ => kids.length - ivar (fr 11)) ⟨0, by simp, by simp, by simp [encL_len], by simp, by simp [sizeL]⟩ ?_
  rintro fr H ⟨i, hi, h9, h10, h11, h3⟩
  by_cases hlt : i < kids.length
  ·obtain ⟨t, hti⟩ : ∃ t, kids[i]? = some t := ⟨_, List.getElem?_eq_getElem hlt⟩
   have hg := encL_get hti
   have ht1 := size_mem (List.mem_of_getElem? hti)
   have hst : sSizeM m [encT t] = some (.int .i64 t.size) := by
    simp only [sSizeM, decT_enc]
    rw [if_pos (by omega)]
   have hnx := take_next hti
   have hsz : sizeL (kids.take (i + 1)) = sizeL (kids.take i) + t.size := by rw [hnx, sizeL_append, sizeL_one]
   have hle := sizeL_take kids (i + 1)
   obtain ⟨b, k, s, a, vs, hen⟩ := encT_shape t
   rw [hen] at hg hst
   have w1 : IntKind.i64.wrap (1 + (sizeL (kids.take i) : Int) + t.size) = 1 + (sizeL (kids.take i) : Int) + t.size := IntWalk.i64_in _ (by omega)
   simp [h9, h10, h11, h3, hlt, hg, hmu, hfn, hst, w1, wrap_succ (i := i) (by omega)]
   exact ⟨⟨i + 1, by omega, by simp, by omega⟩, by simp only [ivar]; omega⟩
  ·have hil : i = kids.length := by omega
   subst hil
   rw [List.take_length] at h3
   simp [h9, h10, h11, h3]
theorem size_ok : FnOk Tryd.prog base 15 (pureS sSize) := by
 refine FnOk.union (s := sSizeM) (FnOk.steps ?_ size_step) fun args x hs => ?_
 ·refine pure_of_vc hmix Tab.none_ok globNone low15 fun args x hs hf => ?_
  exfalso
  unfold sSizeM at hs
  split at hs
  case h_2 => cases hs
  split at hs
  case h_2 => cases hs
  rw [if_neg (by omega)] at hs
  cases hs
 ·unfold sSize at hs
  split at hs
  case h_2 => cases hs
  rename_i v
  split at hs
  case h_2 => cases hs
  rename_i t hd
  split at hs
  case isFalse => cases hs
  rename_i hw
  exact ⟨t.size + 1, by simp only [sSizeM, hd]; rw [if_pos (by omega)]; exact hs⟩
mutual
theorem deep_size : ∀ t : Tr Wd, t.deep ≤ t.size
 | .leaf _ => by simp [Tr.deep, Tr.size]
 | .list kids => by
  have := deepL_size kids
  simp only [Tr.deep, Tr.size]; omega
theorem deepL_size : ∀ l : List (Tr Wd), deepL l ≤ sizeL l
 | [] => Nat.le_refl _
 | t :: l => by
  have h1 := deep_size t
  have h2 := deepL_size l
  simp only [deepL, sizeL]; omega
end
theorem deepL_take (l : List (Tr Wd)) (i : Nat) : deepL (l.take i) ≤ deepL l := by
 have := deepL_append (l.take i) (l.drop i)
 rw [List.take_append_drop] at this
 omega
def sDeepM (m : Nat) : List PVal → Option PVal
 | [v] => match decT v with
  | some t => if t.size < m ∧ t.size ≤ 1000000 then some (.int .i64 t.deep) else none
  | none => none
 | _ => none
def sDeep : List PVal → Option PVal
 | [v] => match decT v with
  | some t => if t.size ≤ 1000000 then some (.int .i64 t.deep) else none
  | none => none
 | _ => none
theorem deep_step (m : Nat) (ih : FnOk Tryd.prog base 14 (pureS (sDeepM m))) : FnOk Tryd.prog base 14 (pureS (sDeepM (m + 1))) := by
 have hT : TabOk Tryd.prog base (Tab.none.with 14 (pureS (sDeepM m))) := Tab.with_ok Tab.none_ok ih
 have hmu : ∀ (f : FuncId) (a : List AVal) (H : Heap), (Tab.none.with 14 (pureS (sDeepM m))).mu f a H = none := fun _ _ _ => rfl
 have hfn : (Tab.none.with 14 (pureS (sDeepM m))).fn 14 = pureS (sDeepM m) := by unfold Tab.with; funext a; simp
 generalize Tab.none.with 14 (pureS (sDeepM m)) = T at hT hmu hfn
 refine pure_of_vc hmix hT globNone low14 fun args x hs hf => ?_
 unfold sDeepM at hs
 split at hs
 case h_2 => cases hs
 rename_i v
 split at hs
 case h_2 => cases hs
 rename_i t hd
 split at hs
 case isFalse => cases hs
 rename_i hw
 have := decT_some hd
 subst this
 cases hs
 refine ⟨by simp [lf14], ?_⟩
 cases t with
 | leaf w => simp [lf14, encT, Tr.deep]
 | list kids =>
  simp only [Tr.size] at hw
  have hkl := len_size kids
  have hdl := deepL_size kids
  have w0 : IntKind.i64.wrap ((deepL kids : Int) + 1) = (deepL kids : Int) + 1 := IntWalk.i64_in _ (by omega)
  simp [lf14, encT, Tr.deep]
  simp only [lf14_B0, vc_block]
  refine loop_ind (fun fr H => ∃ i : Nat, i ≤ kids.length ∧ fr 10 = .p (.lst (encL kids)) ∧ fr 11 = .p (.int .i64 (kids.length : Int)) ∧ fr 12 = .p (.int .i64 (i : Int)) ∧ fr 3 = .p (.int .i64 ((deepL (kids.take i) : Nat) : Int)))
   (fun fr _ => kids.length - ivar (fr 12)) ⟨0, by simp, by simp, by simp [encL_len], by simp, by simp [deepL]⟩ ?_
  rintro fr H ⟨i, hi, h9, h10, h11, h3⟩
  by_cases hlt : i < kids.length
  ·obtain ⟨t, hti⟩ : ∃ t, kids[i]? = some t := ⟨_, List.getElem?_eq_getElem hlt⟩
   have hg := encL_get hti
   have ht1 := size_mem (List.mem_of_getElem? hti)
   have hst : sDeepM m [encT t] = some (.int .i64 t.deep) := by
    simp only [sDeepM, decT_enc]
    rw [if_pos (by omega)]
   have hnx := take_next hti
   have hsz : deepL (kids.take (i + 1)) = max (deepL (kids.take i)) t.deep := by rw [hnx, deepL_append, deepL_one]
   have hle := deepL_take kids (i + 1)
   obtain ⟨b, k, s, a, vs, hen⟩ := encT_shape t
   rw [hen] at hg hst
   simp [h9, h10, h11, h3, hlt, hg, hmu, hfn, hst, wrap_succ (i := i) (by omega)]
   exact ⟨⟨i + 1, by omega, by simp, by omega⟩, by simp only [ivar]; omega⟩
  ·have hil : i = kids.length := by omega
   subst hil
   rw [List.take_length] at h3
   simp [h9, h10, h11, h3, w0]
theorem deep_ok : FnOk Tryd.prog base 14 (pureS sDeep) := by
 refine FnOk.union (s := sDeepM) (FnOk.steps ?_ deep_step) fun args x hs => ?_
 ·refine pure_of_vc hmix Tab.none_ok globNone low14 fun args x hs hf => ?_
  exfalso
  unfold sDeepM at hs
  split at hs
  case h_2 => cases hs
  split at hs
  case h_2 => cases hs
  rw [if_neg (by omega)] at hs
  cases hs
 ·unfold sDeep at hs
  split at hs
  case h_2 => cases hs
  rename_i v
  split at hs
  case h_2 => cases hs
  rename_i t hd
  split at hs
  case isFalse => cases hs
  rename_i hw
  exact ⟨t.size + 1, by simp only [sDeepM, hd]; rw [if_pos (by omega)]; exact hs⟩
end Go.Proofs.YtdaiicaeklcceaaDoor
