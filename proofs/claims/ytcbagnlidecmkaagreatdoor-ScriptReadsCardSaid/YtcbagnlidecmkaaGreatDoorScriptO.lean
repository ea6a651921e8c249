/-
  What the reference's Show and CommandText compute. No conditions beyond the lemmas' own hypotheses.
-/
import Derived.Test.YtcbagnlidecmkaaGreatDoorScriptK
import Derived.Test.YtcbagnlidecmkaaGreatDoorScriptP
import Derived.Test.YtcbagnlidecmkaaGreatDoorScriptL
import Derived.Test.YtcbagnlidecmkaaGreatDoorScriptJ
set_option linter.unusedSimpArgs false
set_option linter.unnecessarySimpa false
set_option linter.unusedVariables false
set_option linter.constructorNameAsVariable false

/-
 The reference's Show.
-/
namespace Go.Proofs.YtcbagnlidecmkaaGreatDoor
open Go Go.Abs Go.Lex Go.Sexp
set_option maxRecDepth 20000
attribute [local irreducible] vc
attribute [local simp] pureS touchV freezeL fuel shiftV
variable {base : Prot} {m : Int}
theorem tail_app : ∀ l r : List (Tr Lex.Key), showTail (l ++ r) = showTail l ++ showTail r
 | [], r => rfl
 | a :: l, r => by
  rw [List.cons_append, showTail, showTail, tail_app l r]; simp
theorem kids_app_le : ∀ l r : List (Tr Lex.Key), (showKL l).length ≤ (showKL (l ++ r)).length
 | [], r => Nat.zero_le _
 | a :: l, r => by
  show (showK a ++ showTail l).length ≤ (showK a ++ showTail (l ++ r)).length
  rw [tail_app]
  simp only [List.length_append]; omega
theorem kids_snoc (l : List (Tr Lex.Key)) (a : Tr Lex.Key) : showKL (l ++ [a]) = showKL l ++ (if l = [] then showK a else 32 :: showK a) := by
 cases l with
 | nil => show showK a ++ showTail [] = [] ++ showK a; simp [showTail]
 | cons b l =>
  show showK b ++ showTail (l ++ [a]) = (showK b ++ showTail l) ++ 32 :: showK a
  rw [tail_snoc]; simp
theorem mapL_app (f : Wd → Lex.Key) : ∀ l r : List (Tr Wd), mapL f (l ++ r) = mapL f l ++ mapL f r
 | [], r => rfl
 | a :: l, r => by rw [List.cons_append, mapL, mapL, mapL_app f l r]; rfl
def preK (kids : List (Tr Wd)) (i : Nat) : List UInt8 := showKL (mapL Lex.key (kids.take i))
theorem preK_next {kids : List (Tr Wd)} {i : Nat} {t : Tr Wd} (h : kids[i]? = some t) : preK kids (i + 1) = preK kids i ++ (if i = 0 then showT t else 32 :: showT t) := by
 unfold preK
 rw [take_next h, mapL_app]
 show showKL (mapL Lex.key (kids.take i) ++ [t.map Lex.key]) = _
 rw [kids_snoc]
 have hi := (List.getElem?_eq_some_iff.1 h).1
 by_cases h0 : i = 0
 ·subst h0; rfl
 ·rw [if_neg h0, if_neg]
  ·rfl
  ·intro he
   have := congrArg List.length he
   rw [mapL_len, List.length_take, List.length_nil] at this
   omega
theorem preK_le (kids : List (Tr Wd)) (i : Nat) : (preK kids i).length ≤ (showKL (mapL Lex.key kids)).length := by
 have h := kids_app_le (mapL Lex.key (kids.take i)) (mapL Lex.key (kids.drop i))
 rw [← mapL_app, List.take_append_drop] at h
 exact h
noncomputable def Trw (n : Nat) : Tab := (((Tab.none.with 36 (pureS (sShowM n))).with 60 (pureS sRes)).with 61 (pureS sQuoteR)).with 37 (pureS sRQd)
theorem Trw_mu (n : Nat) (f : FuncId) (a : List AVal) (H : Heap) : (Trw n).mu f a H = none := (rfl)
theorem Trw_1 (n : Nat) : (Trw n).fn 36 = pureS (sShowM n) := (rfl)
theorem Trw_2 (n : Nat) : (Trw n).fn 60 = pureS sRes := (rfl)
theorem Trw_3 (n : Nat) : (Trw n).fn 61 = pureS sQuoteR := (rfl)
theorem Trw_4 (n : Nat) : (Trw n).fn 37 = pureS sRQd := (rfl)
attribute [local simp] Trw_mu Trw_1 Trw_2 Trw_3 Trw_4
theorem rshow_step (n : Nat) (ih : FnOk Tryz.prog base1 36 (pureS (sShowM n))) : FnOk Tryz.prog base1 36 (pureS (sShowM (n + 1))) := by
 have hT : TabOk Tryz.prog base1 (Trw n) := Tab.with_ok (Tab.with_ok (Tab.with_ok (Tab.with_ok Tab.none_ok ih) rres_ok) quoteR_ok) rquoted_ok
 refine pure_of_vc hmix hT globNone low36 fun args x hs hf => ?_
 unfold sShowM at hs
 split at hs
 case h_2 => cases hs
 rename_i v
 split at hs
 case h_2 => cases hs
 rename_i t hd
 split at hs
 case isFalse => cases hs
 rename_i hw
 obtain ⟨hw1, hw2, hw3, hw4⟩ := hw
 have := decT_some hd
 subst this
 cases hs
 refine ⟨by simp [lf36], ?_⟩
 cases t with
 | leaf w =>
  have hsh : showT (.leaf w) = wrW w.kind w.text := rfl
  have hlen : w.text.length ≤ 100000 := hw3
  have h1 : sRes [.str w.text] = some (.bool (isRes w.text)) := rfl
  have h2 : sQuoteR [.str w.text] = (match quoteS w.text with
   | some q => some (.tup [.str q, .bool true])
   | none => some (.tup [.str [], .bool false])) := if_pos hlen
  have h3 : sRQd [.str w.text] = some (.str (34 :: (dbl w.text ++ [34]))) := if_pos hlen
  rw [hsh]
  unfold wrW
  by_cases k3 : w.kind = 3
  ·rw [if_pos k3]
   cases hr : isRes w.text with
   | true => rw [hr] at h1; simp [lf36, encT, k3, h1]
   | false =>
    rw [hr] at h1
    cases hq : quoteS w.text with
    | none => rw [hq] at h2; simp [lf36, encT, k3, h1, h2]
    | some q => rw [hq] at h2; simp [lf36, encT, k3, h1, h2]
  rw [if_neg k3]
  have k3' : (w.kind == 3) = false := by simpa using k3
  by_cases k4 : w.kind = 4
  ·have hb : 1 + w.text.length ≤ 9223372036854775807 := by omega
   rw [if_pos k4]; simp [lf36, encT, k4, binS, maxLen, hb]
  rw [if_neg k4]
  have k4' : (w.kind == 4) = false := by simpa using k4
  by_cases k7 : w.kind = 7
  ·rw [if_pos k7]; simp [lf36, encT, k7, h3]
  rw [if_neg k7]
  have k7' : (w.kind == 7) = false := by simpa using k7
  simp [lf36, encT, k3', k4', k7']
 | list kids =>
  simp only [Tr.size] at hw1 hw2
  have hkl := len_size kids
  have hsh : showT (.list kids) = 40 :: (showKL (mapL Lex.key kids) ++ [41]) := rfl
  have h3 : allL shortK (mapL Lex.key kids) := hw3
  rw [hsh] at hw4 ⊢
  simp only [List.length_cons, List.length_append, List.length_nil] at hw4
  simp [lf36, encT]
  simp only [lf36_B0, vc_block]
  refine loop_ind (fun fr H => ∃ i : Nat, i ≤ kids.length ∧ fr 1 = .optr 0 0 0 0 ∧ fr 4 = .p (.int .i64 (i : Int)) ∧ fr 3 = .p (.str (40 :: preK kids i)) ∧ H[0]? = some ⟨5, 0, false, [.p (.agg [.bool true, .int .i64 0, .str [], .int .i64 0, .lst (encL kids)])], 29⟩)
   (fun fr _ => kids.length - ivar (fr 4)) ⟨0, by simp, by simp, by simp, by simp [preK, mapL, showKL], by simp⟩ ?_
  rintro fr H ⟨i, hi, f1, f4, f3, g0⟩
  have hple := preK_le kids i
  by_cases hlt : i < kids.length
  ·obtain ⟨t, hti⟩ : ∃ t, kids[i]? = some t := ⟨_, List.getElem?_eq_getElem hlt⟩
   have hg := encL_get hti
   have hmem := List.mem_of_getElem? hti
   have ht1 := size_mem hmem
   have ht2 := kids_mem hmem
   have ht3 := allL_mem h3 hmem
   have hst : sShowM n [encT t] = some (.str (showT t)) := by
    simp only [sShowM, decT_enc]
    rw [if_pos ⟨by omega, by omega, ht3, by omega⟩]
   have hnx := preK_next hti
   obtain ⟨b, k, s, a, vs, hen⟩ := encT_shape t
   rw [hen] at hg hst
   have hg' := getE hg
   have hle : (showT t).length ≤ 100000 := by omega
   generalize showT t = S at *
   generalize preK kids i = D at *
   have w1 := wrap_succ (i := i) (by omega)
   by_cases h0 : i = 0
   ·subst h0
    rw [if_pos rfl] at hnx
    have hD : D.length + 1 + S.length ≤ 9223372036854775807 := by omega
    have wr : IntKind.i64.wrap 1 = 1 := by decide
    simp [f1, f4, f3, g0, encL_len, hlt, hg, hg', hst, wr, binS, maxLen, hD]
    exact ⟨⟨1, by omega, by simp, hnx.symm⟩, by simp only [ivar]; omega⟩
   ·rw [if_neg h0] at hnx
    have h0' : 0 < i := by omega
    have hD : D.length + 1 + 1 + S.length ≤ 9223372036854775807 := by omega
    have hD2 : ∀ k, 9000000000000000000 ≤ k → (D.length ≤ k) = True := fun k hk => by simp; omega
    simp [f1, f4, f3, g0, encL_len, hlt, hg, hg', hst, w1, h0', binS, maxLen, hD, hD2]
    exact ⟨⟨i + 1, by omega, by simp, hnx.symm⟩, by simp only [ivar]; omega⟩
  ·have hil : i = kids.length := by omega
   subst hil
   have e : preK kids kids.length = showKL (mapL Lex.key kids) := by unfold preK; rw [List.take_length]
   rw [e] at f3
   have hD2 : ∀ k, 9000000000000000000 ≤ k → ((showKL (mapL Lex.key kids)).length ≤ k) = True := fun k hk => by simp; omega
   simp [f1, f4, f3, g0, encL_len, binS, maxLen, hD2]
theorem rshow_ok : FnOk Tryz.prog base1 36 (pureS sShow) := by
 refine FnOk.union (s := sShowM) (FnOk.steps ?_ rshow_step) fun args x hs => ?_
 ·refine pure_of_vc hmix Tab.none_ok globNone low36 fun args x hs hf => ?_
  exfalso
  unfold sShowM at hs
  split at hs
  case h_2 => cases hs
  split at hs
  case h_2 => cases hs
  rw [if_neg (by omega)] at hs
  cases hs
 ·unfold sShow at hs
  split at hs
  case h_2 => cases hs
  rename_i v
  split at hs
  case h_2 => cases hs
  rename_i t hd
  split at hs
  case isFalse => cases hs
  rename_i hw
  cases hs
  refine ⟨t.size + 1, ?_⟩
  simp only [sShowM, hd]
  exact if_pos ⟨Nat.lt_succ_self _, hw⟩
end Go.Proofs.YtcbagnlidecmkaaGreatDoor

/-
 The reference's CommandText: its contract.
-/
namespace Go.Proofs.YtcbagnlidecmkaaGreatDoor
open Go Go.Abs Go.Lex Go.Sexp
set_option maxRecDepth 1000000
attribute [local irreducible] vc
attribute [local simp] pureS touchV freezeL fuel shiftV
variable {base : Prot} {m : Int}
theorem text_of {c : Cmd Wd} {l : List (Tr Lex.Key)} (h : partsK (c.map key) = l) (hg : GoodC c) : textK (c.map key) = 40 :: (nameK c.kind ++ (showTail l ++ [41])) := by
 have h8 := (nm_wr c.kind (by have := hg.2.1; omega) hg.1).1
 have e : textK (c.map key) = 40 :: ((wrW 3 (nameK c.kind) ++ showTail l) ++ [41]) := by rw [← h]; rfl
 rw [e, h8, List.append_assoc]
theorem rq_good {s : List UInt8} (h : RdK (3, s)) (hl : (wrW 3 s).length ≤ 50000) : sRQt [.str s] = some (.str (wrW 3 s)) := by
 have := rd_txt h
 have h2 : s.length ≤ (wrW 3 s).length := this
 simp only [sRQt]
 rw [if_pos (by omega)]
theorem int_good {n : Nat} (h : n ≤ 1000) : Nn.sIOf [.int .i64 n] = some (Nn.iN n) ∧ Nn.sIText [Nn.iN n] = some (.str (itoaK n)) := by
 obtain ⟨h1, h2⟩ := Nn.text_int (z := (n : Int)) (by omega) (by omega)
 refine ⟨h1, ?_⟩
 rw [h2, if_neg (by omega), Int.natAbs_natCast, dig_itoa h]
theorem itoaK_len {n : Nat} : (itoaK n).length ≤ 4 := by
 unfold itoaK
 split
 ·simp
 split
 ·simp
 split <;> simp
def preQ (l : List (Tr Lex.Key)) (i : Nat) : List UInt8 := showKL (l.take i)
theorem preQ_next {l : List (Tr Lex.Key)} {i : Nat} {t : Tr Lex.Key} (h : l[i]? = some t) : preQ l (i + 1) = preQ l i ++ (if i = 0 then showK t else 32 :: showK t) := by
 unfold preQ
 have e : l.take (i + 1) = l.take i ++ [t] := by rw [List.take_add_one, h]; rfl
 rw [e, kids_snoc]
 have hi := (List.getElem?_eq_some_iff.1 h).1
 by_cases h0 : i = 0
 ·subst h0; rfl
 ·rw [if_neg h0, if_neg]
  intro he
  have := congrArg List.length he
  rw [List.length_take, List.length_nil] at this
  omega
theorem preQ_le (l : List (Tr Lex.Key)) (i : Nat) : (preQ l i).length + 2 ≤ (showK (.list l)).length := by
 have h := kids_app_le (l.take i) (l.drop i)
 rw [List.take_append_drop] at h
 have e : (showK (.list l)).length = (showKL l).length + 2 := by
  show (40 :: (showKL l ++ [41])).length = _
  simp
 unfold preQ; omega
theorem preQ_all (l : List (Tr Lex.Key)) : showK (.list l) = 40 :: (preQ l l.length ++ [41]) := by unfold preQ; rw [List.take_length]; rfl
theorem allK_mem {Q : Lex.Key → Prop} {t : Tr Lex.Key} : ∀ {l : List (Tr Lex.Key)}, allL Q l → t ∈ l → t.all Q
 | a :: l, h, ht => by
  rcases List.mem_cons.1 ht with rfl | ht
  ·exact h.1
  ·exact allK_mem h.2 ht
theorem binS_ok {a b : List UInt8} (h : a.length + b.length ≤ 4000000) : binS .add a b = some (.str (a ++ b)) := if_pos (by unfold maxLen; omega)
noncomputable def Tct (sa sb : List PVal → Option PVal) : Tab := ((((Tab.none.with 35 (pureS sRQt)).with 36 (pureS sShow)).with 37 (pureS sRQd)).with 19 (pureS sa)).with 18 (pureS sb)
variable {sa sb : List PVal → Option PVal}
theorem Tct_ok (oka : FnOk Tryz.prog (base3 m) 19 (pureS sa)) (okb : FnOk Tryz.prog (base3 m) 18 (pureS sb)) : TabOk Tryz.prog (base3 m) (Tct sa sb) := Tab.with_ok (Tab.with_ok (Tab.with_ok (Tab.with_ok (Tab.with_ok Tab.none_ok (FnOk.over (base3_le m) (FnOk.over (base2_le m) rquote_ok))) (FnOk.over (base3_le m) (FnOk.over (base2_le m) rshow_ok))) rquoted_ok) oka) okb
theorem Tct_mu (f : FuncId) (a : List AVal) (H : Heap) : (Tct sa sb).mu f a H = none := (rfl)
theorem Tct_1 : (Tct sa sb).fn 35 = pureS sRQt := (rfl)
theorem Tct_2 : (Tct sa sb).fn 36 = pureS sShow := (rfl)
theorem Tct_3 : (Tct sa sb).fn 37 = pureS sRQd := (rfl)
theorem Tct_4 : (Tct sa sb).fn 19 = pureS sa := (rfl)
theorem Tct_5 : (Tct sa sb).fn 18 = pureS sb := (rfl)
attribute [local simp] Tct_mu Tct_1 Tct_2 Tct_3 Tct_4 Tct_5
set_option maxHeartbeats 4000000 in
theorem ctext_gen (oka : FnOk Tryz.prog (base3 m) 19 (pureS sa)) (okb : FnOk Tryz.prog (base3 m) 18 (pureS sb))
  (hint : ∀ n : Nat, n ≤ 1000 → ∃ s xs, sa [.int .i64 (n : Int)] = some (.agg [.bool s, .lst xs]) ∧ sb [.agg [.bool s, .lst xs]] = some (.str (itoaK n))) : FnOk Tryz.prog (base3 m) 17 (pureS sText) := by
 refine pure_of_vc hmix (Tct_ok oka okb) globNone low17 fun args x hs hf => ?_
 unfold sText at hs
 split at hs
 case h_2 => cases hs
 split at hs
 case h_2 => cases hs
 rename_i c hd
 split at hs
 case isFalse => cases hs
 rename_i hg
 have := decC_some hd
 subst this
 cases hs
 refine ⟨by simp [lf17], ?_⟩
 obtain ⟨tb, tk, ts, ta, tvs, ten⟩ := encT_shape c.term
 have hec := encC_at ten
 have hk15 : c.kind = 1 ∨ c.kind = 2 ∨ c.kind = 3 ∨ c.kind = 4 ∨ c.kind = 5 ∨ c.kind = 6 ∨ c.kind = 7 ∨ c.kind = 8 ∨ c.kind = 9 ∨ c.kind = 10 ∨ c.kind = 11 ∨ c.kind = 12 ∨ c.kind = 13 ∨ c.kind = 14 ∨ c.kind = 15 := by have := hg.1; have := hg.2.1; omega
 have hn := hg.2.2.2.2.1
 have hpl := hg.2.2.2.2.2
 rcases hk15 with hk | hk | hk | hk | hk | hk | hk | hk | hk | hk | hk | hk | hk | hk | hk
 ·have hp : partsK (c.map key) = [sK c.name] := by simp [partsK, Cmd.map, hk]
  obtain ⟨hr, hl, -⟩ := parts_of c hp hg
  have htx := text_of hp hg
  have s10 : (wrW 3 c.name).length ≤ 50000 := hl (sK c.name) (by simp)
  have s1 := rq_good hr.1 s10
  have d1 : (wrW 3 c.name).length ≤ 50010 := by omega
  rw [hk] at hec htx
  have hnK : nameK 1 = [115, 101, 116, 45, 108, 111, 103, 105, 99] := rfl
  simp only [hnK, showTail, show_sK, show_leafK] at htx
  rw [hec, htx]
  clear htx hp hg hl hr
  generalize wrW 3 c.name = S at *
  simp (disch := (first | (intros; simp only [List.length_cons, List.length_append, List.length_nil]; omega) | (simp; done) | (intros; contradiction))) [lf17, binS_ok, s1]
 ·have hp : partsK (c.map key) = [.leaf (4, c.name), c.term.map key] := by simp [partsK, Cmd.map, hk]
  obtain ⟨hr, hl, -⟩ := parts_of c hp hg
  have htx := text_of hp hg
  have hb : c.name.length ≤ 50000 := by
   have h1 := rd_txt hr.1
   have h2 : (wrW 4 c.name).length ≤ 50000 := hl (.leaf (4, c.name)) (by simp)
   simp only at h1; omega
  have hw : wrW 4 c.name = 58 :: c.name := rfl
  have s2l := hl (c.term.map key) (by simp)
  have s2 := show_good (t := c.term) hr.2.1 s2l
  rw [ten] at s2
  have d1 : (c.name).length ≤ 50010 := by omega
  have d2 : (showK (c.term.map key)).length ≤ 50010 := by omega
  rw [hk] at hec htx
  have hnK : nameK 2 = [115, 101, 116, 45, 111, 112, 116, 105, 111, 110] := rfl
  simp only [hnK, showTail, show_sK, show_leafK, hw] at htx
  rw [hec, htx]
  clear htx hp hg hl hr
  generalize showK (c.term.map key) = D at *
  simp (disch := (first | (intros; simp only [List.length_cons, List.length_append, List.length_nil]; omega) | (simp; done) | (intros; contradiction))) [lf17, binS_ok, s2]
 ·have hw : wrW 4 c.name = 58 :: c.name := rfl
  have hnt : noneT c.term = (!tb && (tk == 0)) := by
   have s3 : sNone [encT c.term] = some (.bool (noneT c.term)) := by simp only [sNone, decT_enc]
   cases hct : c.term with
   | leaf w => rw [hct] at ten; simp only [encT] at ten; cases ten; rfl
   | list l => rw [hct] at ten; simp only [encT] at ten; cases ten; rfl
  by_cases hnn : noneT c.term = true
  ·have hp : partsK (c.map key) = [.leaf (4, c.name)] := by
    have := hnn; rw [noneT_K] at this
    simp [partsK, Cmd.map, hk, this]
   obtain ⟨hr, hl, -⟩ := parts_of c hp hg
   have htx := text_of hp hg
   have hb : c.name.length ≤ 50000 := by
    have h1 := rd_txt hr.1
    have h2 : (wrW 4 c.name).length ≤ 50000 := hl (.leaf (4, c.name)) (by simp)
    simp only at h1; omega
   rw [hnt] at hnn
   simp only [Bool.and_eq_true, Bool.not_eq_true', beq_iff_eq] at hnn
   obtain ⟨rfl, rfl⟩ := hnn
   rw [hk] at hec htx
   have hnK : nameK 3 = [115, 101, 116, 45, 105, 110, 102, 111] := rfl
   simp only [hnK, showTail, show_sK, show_leafK, hw] at htx
   rw [hec, htx]
   clear htx hp hg hl hr
   simp (disch := (first | (intros; simp only [List.length_cons, List.length_append, List.length_nil]; omega) | (simp; done) | (intros; contradiction))) [lf17, binS_ok]
  ·have hnf : noneT c.term = false := by simpa using hnn
   have hp : partsK (c.map key) = [.leaf (4, c.name), c.term.map key] := by
    have := hnf; rw [noneT_K] at this
    simp [partsK, Cmd.map, hk, this]
   obtain ⟨hr, hl, -⟩ := parts_of c hp hg
   have htx := text_of hp hg
   have hb : c.name.length ≤ 50000 := by
    have h1 := rd_txt hr.1
    have h2 : (wrW 4 c.name).length ≤ 50000 := hl (.leaf (4, c.name)) (by simp)
    simp only at h1; omega
   have s2l := hl (c.term.map key) (by simp)
   have s2 := show_good (t := c.term) hr.2.1 s2l
   rw [ten] at s2
   rw [hk] at hec htx
   have hnK : nameK 3 = [115, 101, 116, 45, 105, 110, 102, 111] := rfl
   simp only [hnK, showTail, show_sK, show_leafK, hw] at htx
   rw [hec, htx]
   rw [hnt] at hnf
   clear htx hp hg hl hr
   generalize showK (c.term.map key) = D at *
   cases tb with
   | true => simp (disch := (first | (intros; simp only [List.length_cons, List.length_append, List.length_nil]; omega) | (simp; done) | (intros; contradiction))) [lf17, binS_ok, s2]
   | false =>
    have hk0 : (tk == 0) = false := by simpa using hnf
    simp (disch := (first | (intros; simp only [List.length_cons, List.length_append, List.length_nil]; omega) | (simp; done) | (intros; contradiction))) [lf17, binS_ok, s2, hk0]
 ·have hp : partsK (c.map key) = [sK c.name, .leaf (5, [48])] := by simp [partsK, Cmd.map, hk]
  obtain ⟨hr, hl, -⟩ := parts_of c hp hg
  have htx := text_of hp hg
  have s10 : (wrW 3 c.name).length ≤ 50000 := hl (sK c.name) (by simp)
  have s1 := rq_good hr.1 s10
  have d1 : (wrW 3 c.name).length ≤ 50010 := by omega
  have hw : wrW 5 [48] = [48] := rfl
  rw [hk] at hec htx
  have hnK : nameK 4 = [100, 101, 99, 108, 97, 114, 101, 45, 115, 111, 114, 116] := rfl
  simp only [hnK, showTail, show_sK, show_leafK, hw] at htx
  rw [hec, htx]
  clear htx hp hg hl hr
  generalize wrW 3 c.name = S at *
  simp (disch := (first | (intros; simp only [List.length_cons, List.length_append, List.length_nil]; omega) | (simp; done) | (intros; contradiction))) [lf17, binS_ok, s1]
 ·have hp : partsK (c.map key) = [sK c.name, .list (parTs 5 c.params), sK c.result] := by simp [partsK, Cmd.map, hk, parTs]
  obtain ⟨hr, hl, -⟩ := parts_of c hp hg
  have htx := text_of hp hg
  have s10 : (wrW 3 c.name).length ≤ 50000 := hl (sK c.name) (by simp)
  have s1 := rq_good hr.1 s10
  have s30 : (wrW 3 c.result).length ≤ 50000 := hl (sK c.result) (by simp)
  have s3 := rq_good hr.2.2.1 s30
  have hra : allL RdK (parTs 5 c.params) := hr.2.1
  have hla := hl (.list (parTs 5 c.params)) (by simp)
  rw [hk] at hec htx
  have hnK : nameK 5 = [100, 101, 99, 108, 97, 114, 101, 45, 102, 117, 110] := rfl
  simp only [hnK, showTail, show_sK, show_leafK, preQ_all] at htx
  rw [hec, htx]
  clear htx hp hg hl hr
  have hlen : (parTs 5 c.params).length = c.params.length := by simp [parTs]
  rw [hlen]
  have hget : ∀ (i : Nat) (q : Par), c.params[i]? = some q → (parTs 5 c.params)[i]? = some (sK q.2) := fun i q h => by simp [parTs, h]
  generalize wrW 3 c.name = S at *
  generalize wrW 3 c.result = R at *
  generalize parTs 5 c.params = L at *
  simp (disch := (first | (intros; simp only [List.length_cons, List.length_append, List.length_nil]; omega) | (simp; done) | (intros; contradiction))) [lf17, s1, binS_ok]
  simp only [lf17_B0, vc_block]
  refine loop_ind (fun fr H => ∃ i : Nat, i ≤ c.params.length ∧ fr 1 = .optr 0 0 0 0 ∧ fr 4 = .p (.int .i64 (i : Int)) ∧ fr 3 = .p (.str (40 :: 100 :: 101 :: 99 :: 108 :: 97 :: 114 :: 101 :: 45 :: 102 :: 117 :: 110 :: 32 :: (S ++ 32 :: 40 :: preQ L i))) ∧ H[0]? = some ⟨11, 0, false, [.p (.agg [.int .i64 5, .str c.name, .lst (c.params.map parP), .str c.result, .bool tb, .int .i64 tk, .str ts, .int .i64 ta, .lst tvs, .lst (encL c.terms), .int .i64 c.n])], 40⟩)
   (fun fr _ => c.params.length - ivar (fr 4)) ⟨0, by simp, by simp, by simp, by simp [preQ, showKL], by simp⟩ ?_
  rintro fr H ⟨i, hi, f1, fi, fs, g0⟩
  have hple := preQ_le L i
  by_cases hlt : i < c.params.length
  ·obtain ⟨q, hqi⟩ : ∃ q, c.params[i]? = some q := ⟨_, List.getElem?_eq_getElem hlt⟩
   have hgq : (c.params.map parP)[i]? = some (parP q) := by rw [List.getElem?_map, hqi]; rfl
   have hgq' := getE hgq
   have hLi := hget i q hqi
   have hmem := List.mem_of_getElem? hLi
   have hrm := allK_mem hra hmem
   have hsm := show_mem hmem
   have hnx := preQ_next hLi
   have hq1 := rq_good hrm (Nat.le_trans hsm hla)
   have hW : (wrW 3 q.2).length ≤ 50000 := Nat.le_trans hsm hla
   simp only [show_sK] at hnx
   generalize wrW 3 q.2 = W at *
   generalize preQ L i = E at *
   generalize hE' : preQ L (i + 1) = E' at *
   have w1 := wrap_succ (i := i) (by omega)
   by_cases h0 : i = 0
   ·subst h0
    rw [if_pos rfl] at hnx
    have wr : IntKind.i64.wrap 1 = 1 := by decide
    simp (disch := (first | (intros; simp only [List.length_cons, List.length_append, List.length_nil]; omega) | (simp; done) | (intros; contradiction))) [f1, fi, fs, g0, hlt, hgq, hgq', parP, hq1, wr, binS_ok]
    exact ⟨⟨1, by omega, by simp, by rw [← hnx]; exact hE'.symm⟩, by simp only [ivar]; omega⟩
   ·rw [if_neg h0] at hnx
    have h0' : 0 < i := by omega
    simp (disch := (first | (intros; simp only [List.length_cons, List.length_append, List.length_nil]; omega) | (simp; done) | (intros; contradiction))) [f1, fi, fs, g0, hlt, hgq, hgq', parP, hq1, w1, h0', binS_ok]
    exact ⟨⟨i + 1, by omega, by simp, by rw [← hnx]; exact hE'.symm⟩, by simp only [ivar]; omega⟩
  ·have hil : i = c.params.length := by omega
   subst hil
   simp (disch := (first | (intros; simp only [List.length_cons, List.length_append, List.length_nil]; omega) | (simp; done) | (intros; contradiction))) [f1, fi, fs, g0, s3, binS_ok]
 ·have hp : partsK (c.map key) = [sK c.name, .list (parTs 6 c.params), sK c.result, c.term.map key] := by simp [partsK, Cmd.map, hk, parTs]
  obtain ⟨hr, hl, -⟩ := parts_of c hp hg
  have htx := text_of hp hg
  have s10 : (wrW 3 c.name).length ≤ 50000 := hl (sK c.name) (by simp)
  have s1 := rq_good hr.1 s10
  have s30 : (wrW 3 c.result).length ≤ 50000 := hl (sK c.result) (by simp)
  have s3 := rq_good hr.2.2.1 s30
  have s2l := hl (c.term.map key) (by simp)
  have s2 := show_good (t := c.term) hr.2.2.2.1 s2l
  rw [ten] at s2
  have hra : allL RdK (parTs 6 c.params) := hr.2.1
  have hla := hl (.list (parTs 6 c.params)) (by simp)
  rw [hk] at hec htx
  have hnK : nameK 6 = [100, 101, 102, 105, 110, 101, 45, 102, 117, 110] := rfl
  simp only [hnK, showTail, show_sK, show_leafK, preQ_all] at htx
  rw [hec, htx]
  clear htx hp hg hl hr
  have hlen : (parTs 6 c.params).length = c.params.length := by simp [parTs]
  rw [hlen]
  have hget : ∀ (i : Nat) (q : Par), c.params[i]? = some q → (parTs 6 c.params)[i]? = some (.list [sK q.1, sK q.2]) := fun i q h => by simp [parTs, h]
  generalize wrW 3 c.name = S at *
  generalize wrW 3 c.result = R at *
  generalize showK (c.term.map key) = D at *
  generalize parTs 6 c.params = L at *
  simp (disch := (first | (intros; simp only [List.length_cons, List.length_append, List.length_nil]; omega) | (simp; done) | (intros; contradiction))) [lf17, s1, binS_ok]
  simp only [lf17_B1, vc_block]
  refine loop_ind (fun fr H => ∃ i : Nat, i ≤ c.params.length ∧ fr 1 = .optr 0 0 0 0 ∧ fr 6 = .p (.int .i64 (i : Int)) ∧ fr 5 = .p (.str (40 :: 100 :: 101 :: 102 :: 105 :: 110 :: 101 :: 45 :: 102 :: 117 :: 110 :: 32 :: (S ++ 32 :: 40 :: preQ L i))) ∧ H[0]? = some ⟨11, 0, false, [.p (.agg [.int .i64 6, .str c.name, .lst (c.params.map parP), .str c.result, .bool tb, .int .i64 tk, .str ts, .int .i64 ta, .lst tvs, .lst (encL c.terms), .int .i64 c.n])], 40⟩)
   (fun fr _ => c.params.length - ivar (fr 6)) ⟨0, by simp, by simp, by simp, by simp [preQ, showKL], by simp⟩ ?_
  rintro fr H ⟨i, hi, f1, fi, fs, g0⟩
  have hple := preQ_le L i
  by_cases hlt : i < c.params.length
  ·obtain ⟨q, hqi⟩ : ∃ q, c.params[i]? = some q := ⟨_, List.getElem?_eq_getElem hlt⟩
   have hgq : (c.params.map parP)[i]? = some (parP q) := by rw [List.getElem?_map, hqi]; rfl
   have hgq' := getE hgq
   have hLi := hget i q hqi
   have hmem := List.mem_of_getElem? hLi
   have hrm := allK_mem hra hmem
   have hsm := show_mem hmem
   have hnx := preQ_next hLi
   have hrm1 : RdK (3, q.1) := hrm.1
   have hrm2 : RdK (3, q.2) := hrm.2.1
   have eW : showK (.list [sK q.1, sK q.2]) = 40 :: (wrW 3 q.1 ++ 32 :: (wrW 3 q.2 ++ [41])) := by
    show 40 :: ((wrW 3 q.1 ++ (32 :: (wrW 3 q.2 ++ []))) ++ [41]) = _
    simp
   have hsz := Nat.le_trans hsm hla
   rw [eW] at hsz
   simp only [List.length_cons, List.length_append, List.length_nil] at hsz
   have hq1 := rq_good hrm1 (by omega)
   have hq2 := rq_good hrm2 (by omega)
   rw [eW] at hnx
   generalize wrW 3 q.1 = V at *
   generalize wrW 3 q.2 = W at *
   generalize preQ L i = E at *
   generalize hE' : preQ L (i + 1) = E' at *
   have w1 := wrap_succ (i := i) (by omega)
   by_cases h0 : i = 0
   ·subst h0
    rw [if_pos rfl] at hnx
    have wr : IntKind.i64.wrap 1 = 1 := by decide
    simp (disch := (first | (intros; simp only [List.length_cons, List.length_append, List.length_nil]; omega) | (simp; done) | (intros; contradiction))) [f1, fi, fs, g0, hlt, hgq, hgq', parP, hq1, hq2, wr, binS_ok]
    exact ⟨⟨1, by omega, by simp, by rw [← hnx]; exact hE'.symm⟩, by simp only [ivar]; omega⟩
   ·rw [if_neg h0] at hnx
    have h0' : 0 < i := by omega
    simp (disch := (first | (intros; simp only [List.length_cons, List.length_append, List.length_nil]; omega) | (simp; done) | (intros; contradiction))) [f1, fi, fs, g0, hlt, hgq, hgq', parP, hq1, hq2, w1, h0', binS_ok]
    exact ⟨⟨i + 1, by omega, by simp, by rw [← hnx]; exact hE'.symm⟩, by simp only [ivar]; omega⟩
  ·have hil : i = c.params.length := by omega
   subst hil
   simp (disch := (first | (intros; simp only [List.length_cons, List.length_append, List.length_nil]; omega) | (simp; done) | (intros; contradiction))) [f1, fi, fs, g0, s3, s2, binS_ok]
 ·have hp : partsK (c.map key) = [c.term.map key] := by simp [partsK, Cmd.map, hk]
  obtain ⟨hr, hl, -⟩ := parts_of c hp hg
  have htx := text_of hp hg
  have s2l := hl (c.term.map key) (by simp)
  have s2 := show_good (t := c.term) hr.1 s2l
  rw [ten] at s2
  have d1 : (showK (c.term.map key)).length ≤ 50010 := by omega
  rw [hk] at hec htx
  have hnK : nameK 7 = [97, 115, 115, 101, 114, 116] := rfl
  simp only [hnK, showTail, show_sK, show_leafK] at htx
  rw [hec, htx]
  clear htx hp hg hl hr
  generalize showK (c.term.map key) = D at *
  simp (disch := (first | (intros; simp only [List.length_cons, List.length_append, List.length_nil]; omega) | (simp; done) | (intros; contradiction))) [lf17, binS_ok, s2]
 ·have hp : partsK (c.map key) = [.leaf (5, itoaK c.n)] := by simp [partsK, Cmd.map, hk]
  obtain ⟨hr, hl, -⟩ := parts_of c hp hg
  have htx := text_of hp hg
  obtain ⟨ns, nx, s5, s6⟩ := hint c.n hn
  have hil := itoaK_len (n := c.n)
  have hw : wrW 5 (itoaK c.n) = itoaK c.n := rfl
  have d1 : (itoaK c.n).length ≤ 50010 := by omega
  rw [hk] at hec htx
  have hnK : nameK 8 = [112, 117, 115, 104] := rfl
  simp only [hnK, showTail, show_sK, show_leafK, hw] at htx
  rw [hec, htx]
  clear htx hp hg hl hr
  generalize itoaK c.n = S at *
  generalize ((c.n : Nat) : Int) = z at *
  simp (disch := (first | (intros; simp only [List.length_cons, List.length_append, List.length_nil]; omega) | (simp; done) | (intros; contradiction))) [lf17, binS_ok, s5, s6]
 ·have hp : partsK (c.map key) = [.leaf (5, itoaK c.n)] := by simp [partsK, Cmd.map, hk]
  obtain ⟨hr, hl, -⟩ := parts_of c hp hg
  have htx := text_of hp hg
  obtain ⟨ns, nx, s5, s6⟩ := hint c.n hn
  have hil := itoaK_len (n := c.n)
  have hw : wrW 5 (itoaK c.n) = itoaK c.n := rfl
  have d1 : (itoaK c.n).length ≤ 50010 := by omega
  rw [hk] at hec htx
  have hnK : nameK 9 = [112, 111, 112] := rfl
  simp only [hnK, showTail, show_sK, show_leafK, hw] at htx
  rw [hec, htx]
  clear htx hp hg hl hr
  generalize itoaK c.n = S at *
  generalize ((c.n : Nat) : Int) = z at *
  simp (disch := (first | (intros; simp only [List.length_cons, List.length_append, List.length_nil]; omega) | (simp; done) | (intros; contradiction))) [lf17, binS_ok, s5, s6]
 ·have hp : partsK (c.map key) = [] := by simp [partsK, Cmd.map, hk]
  obtain ⟨hr, hl, -⟩ := parts_of c hp hg
  have htx := text_of hp hg
  rw [hk] at hec htx
  have hnK : nameK 10 = [99, 104, 101, 99, 107, 45, 115, 97, 116] := rfl
  simp only [hnK, showTail, show_sK, show_leafK] at htx
  rw [hec, htx]
  clear htx hp hg hl hr
  simp (disch := (first | (intros; simp only [List.length_cons, List.length_append, List.length_nil]; omega) | (simp; done) | (intros; contradiction))) [lf17, binS_ok]
 ·have hp : partsK (c.map key) = [] := by simp [partsK, Cmd.map, hk]
  obtain ⟨hr, hl, -⟩ := parts_of c hp hg
  have htx := text_of hp hg
  rw [hk] at hec htx
  have hnK : nameK 11 = [103, 101, 116, 45, 109, 111, 100, 101, 108] := rfl
  simp only [hnK, showTail, show_sK, show_leafK] at htx
  rw [hec, htx]
  clear htx hp hg hl hr
  simp (disch := (first | (intros; simp only [List.length_cons, List.length_append, List.length_nil]; omega) | (simp; done) | (intros; contradiction))) [lf17, binS_ok]
 ·have hp : partsK (c.map key) = [(Tr.list c.terms).map key] := by simp [partsK, Cmd.map, hk, Tr.map]
  obtain ⟨hr, hl, -⟩ := parts_of c hp hg
  have htx := text_of hp hg
  have s2l := hl ((Tr.list c.terms).map key) (by simp)
  have s2 := show_good (t := .list c.terms) hr.1 s2l
  simp only [encT] at s2
  have d1 : (showK ((Tr.list c.terms).map key)).length ≤ 50010 := by omega
  rw [hk] at hec htx
  have hnK : nameK 12 = [103, 101, 116, 45, 118, 97, 108, 117, 101] := rfl
  simp only [hnK, showTail, show_sK, show_leafK] at htx
  rw [hec, htx]
  clear htx hp hg hl hr
  generalize showK ((Tr.list c.terms).map key) = D at *
  simp (disch := (first | (intros; simp only [List.length_cons, List.length_append, List.length_nil]; omega) | (simp; done) | (intros; contradiction))) [lf17, binS_ok, s2, fillA]
 ·have hp : partsK (c.map key) = [.leaf (7, c.name)] := by simp [partsK, Cmd.map, hk]
  obtain ⟨hr, hl, -⟩ := parts_of c hp hg
  have htx := text_of hp hg
  have hw : wrW 7 c.name = 34 :: (dbl c.name ++ [34]) := rfl
  have hW : (wrW 7 c.name).length ≤ 50000 := hl (.leaf (7, c.name)) (by simp)
  have hb : c.name.length ≤ 50000 := by
   have h1 := rd_txt hr.1
   simp only at h1; omega
  rw [hw] at hW
  simp only [List.length_cons, List.length_append, List.length_nil] at hW
  have s7 : sRQd [.str c.name] = some (.str (34 :: (dbl c.name ++ [34]))) := if_pos (by omega)
  have d1 : (dbl c.name).length ≤ 50010 := by omega
  rw [hk] at hec htx
  have hnK : nameK 13 = [101, 99, 104, 111] := rfl
  simp only [hnK, showTail, show_sK, show_leafK, hw] at htx
  rw [hec, htx]
  clear htx hp hg hl hr
  generalize dbl c.name = S at *
  simp (disch := (first | (intros; simp only [List.length_cons, List.length_append, List.length_nil]; omega) | (simp; done) | (intros; contradiction))) [lf17, binS_ok, s7]
 ·have hp : partsK (c.map key) = [] := by simp [partsK, Cmd.map, hk]
  obtain ⟨hr, hl, -⟩ := parts_of c hp hg
  have htx := text_of hp hg
  rw [hk] at hec htx
  have hnK : nameK 14 = [114, 101, 115, 101, 116] := rfl
  simp only [hnK, showTail, show_sK, show_leafK] at htx
  rw [hec, htx]
  clear htx hp hg hl hr
  simp (disch := (first | (intros; simp only [List.length_cons, List.length_append, List.length_nil]; omega) | (simp; done) | (intros; contradiction))) [lf17, binS_ok]
 ·have hp : partsK (c.map key) = [] := by simp [partsK, Cmd.map, hk]
  obtain ⟨hr, hl, -⟩ := parts_of c hp hg
  have htx := text_of hp hg
  rw [hk] at hec htx
  have hnK : nameK 15 = [101, 120, 105, 116] := rfl
  simp only [hnK, showTail, show_sK, show_leafK] at htx
  rw [hec, htx]
  clear htx hp hg hl hr
  simp (disch := (first | (intros; simp only [List.length_cons, List.length_append, List.length_nil]; omega) | (simp; done) | (intros; contradiction))) [lf17, binS_ok]
theorem ctext_ok : FnOk Tryz.prog (base3 m) 17 (pureS sText) := by
 refine ctext_gen Nn.riof_ok Nn.rtexti_ok fun n hn => ?_
 obtain ⟨s5, s6⟩ := int_good hn
 obtain ⟨ns, nx, ne⟩ := Nn.iN_agg (n : Int)
 rw [ne] at s5 s6
 exact ⟨ns, nx, s5, s6⟩
end Go.Proofs.YtcbagnlidecmkaaGreatDoor
