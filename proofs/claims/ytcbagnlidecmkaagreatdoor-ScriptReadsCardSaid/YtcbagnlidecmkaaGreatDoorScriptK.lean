/-
  What the reference's symbol, number, quote and Quoted compute, and what its Parse is to compute. No conditions beyond the lemmas' own hypotheses.
-/
import Derived.Test.YtcbagnlidecmkaaGreatDoorScriptG
import Derived.Test.YtcbagnlidecmkaaGreatDoorScriptA
import Derived.Test.YtcbagnlidecmkaaGreatDoorLexC
import Derived.Test.YtcbagnlidecmkaaGreatDoorScriptC
import Derived.Test.YtcbagnlidecmkaaGreatDoorScriptL
set_option linter.unusedSimpArgs false
set_option linter.unnecessarySimpa false
set_option linter.unusedVariables false
set_option linter.constructorNameAsVariable false

/-
 The reference's small functions on trees: symbol, number, quote, Quoted.
-/
namespace Go.Proofs.YtcbagnlidecmkaaGreatDoor
open Go Go.Abs Go.Lex Go.Sexp
set_option maxRecDepth 20000
attribute [local irreducible] vc
attribute [local simp] pureS touchV freezeL fuel shiftV
variable {base : Prot} {m : Int}
def sRSym : List PVal → Option PVal
 | [v] => match decT v with | some t => some (.tup [.str (txtT key t), .bool (sb t)]) | none => none
 | _ => none
theorem sRSym_at (t : Tr Wd) : sRSym [encT t] = some (.tup [.str (txtT key t), .bool (sb t)]) := by simp only [sRSym, decT_enc]
theorem rsymbol_ok : FnOk Tryz.prog base 58 (pureS sRSym) := by
 refine pure_of_vc hmix Tab.none_ok globNone low58 fun args x hs hf => ?_
 unfold sRSym at hs
 split at hs
 case h_2 => cases hs
 split at hs
 case h_2 => cases hs
 rename_i t hd
 have := decT_some hd
 subst this
 cases hs
 refine ⟨by simp [lf58], ?_⟩
 cases t with
 | leaf w =>
  have e : sb (.leaf w) = (w.kind == 3) := by
   show (if w.kind = 3 then some w.text else none).isSome = _
   by_cases h : w.kind = 3 <;> simp [h]
  have e2 : txtT key (.leaf w) = w.text := rfl
  rw [e, e2]
  simp [lf58, encT]
 | list l =>
  have e : sb (.list l) = false := rfl
  have e2 : txtT key (.list l) = [] := rfl
  rw [e, e2]
  simp [lf58, encT]
def numT (t : Tr Wd) : Nat × Bool := if isK key 5 t = true then numM (txtT key t) else (0, false)
def sRNum : List PVal → Option PVal
 | [v] => match decT v with | some t => some (.tup [.int .i64 (numT t).1, .bool (numT t).2]) | none => none
 | _ => none
theorem sRNum_at (t : Tr Wd) : sRNum [encT t] = some (.tup [.int .i64 (numT t).1, .bool (numT t).2]) := by simp only [sRNum, decT_enc]
theorem decN_next {s : List UInt8} {i : Nat} {c : UInt8} (h : s[i]? = some c) : Lex.decN (s.take (i + 1)) = Lex.decN (s.take i) * 10 + (c.toNat - 48) := by
 rw [List.take_add_one, h]
 unfold Lex.decN
 rw [List.foldl_append]; rfl
theorem decN_small : ∀ (i : Nat) (s : List UInt8), s.all isDigit = true → i ≤ 4 → Lex.decN (s.take i) ≤ 9999 := fun i s hs hi => by
 have key : ∀ (l : List UInt8) (a : Nat), l.all isDigit = true → l.foldl (fun n c => n * 10 + (c.toNat - 48)) a + 1 ≤ (a + 1) * 10 ^ l.length := fun l => by
  induction l with
  | nil => intro a _; simp
  | cons c l ih =>
   intro a hl
   rw [List.all_cons, Bool.and_eq_true] at hl
   have h1 := ih (a * 10 + (c.toNat - 48)) hl.2
   have h2 : c.toNat ≤ 57 := by
    have := hl.1
    unfold isDigit at this
    simp only [Bool.and_eq_true, decide_eq_true_eq] at this
    omega
   rw [List.foldl_cons, List.length_cons, Nat.pow_succ]
   refine Nat.le_trans h1 ?_
   rw [Nat.mul_comm (10 ^ l.length) 10, ← Nat.mul_assoc]
   exact Nat.mul_le_mul_right _ (by omega)
 have h1 := key (s.take i) 0 (List.all_eq_true.2 fun x hx => List.all_eq_true.1 hs x (List.mem_of_mem_take hx))
 have h2 : (s.take i).length ≤ 4 := by rw [List.length_take]; omega
 have h3 : 10 ^ (s.take i).length ≤ 10 ^ 4 := Nat.pow_le_pow_right (by decide) h2
 have h4 : Lex.decN (s.take i) + 1 ≤ (0 + 1) * 10 ^ (s.take i).length := h1
 omega
def Trn : Tab := Tab.none.with 66 (pureS (sByte isDigit))
theorem Trn_ok : TabOk Tryz.prog base Trn := Tab.with_ok Tab.none_ok rdigit_ok
theorem Trn_mu (f : FuncId) (a : List AVal) (H : Heap) : Trn.mu f a H = none := (rfl)
theorem Trn_1 : Trn.fn 66 = pureS (sByte isDigit) := (rfl)
attribute [local simp] Trn_mu Trn_1
theorem rnumber_ok : FnOk Tryz.prog base 59 (pureS sRNum) := by
 refine pure_of_vc hmix Trn_ok globNone low59 fun args x hs hf => ?_
 unfold sRNum at hs
 split at hs
 case h_2 => cases hs
 split at hs
 case h_2 => cases hs
 rename_i t hd
 have := decT_some hd
 subst this
 cases hs
 refine ⟨by simp [lf59], ?_⟩
 cases t with
 | list l =>
  have e : numT (.list l) = (0, false) := rfl
  rw [e]
  simp [lf59, encT]
 | leaf w =>
  have e : numT (.leaf w) = if w.kind = 5 then numM w.text else (0, false) := by
   show (if (w.kind == 5) = true then numM w.text else (0, false)) = _
   by_cases h : w.kind = 5 <;> simp [h]
  rw [e]
  by_cases h5 : w.kind = 5
  ·rw [if_pos h5]
   by_cases h4 : w.text.length ≤ 4
   ·have h4' : ((4 : Int) < w.text.length) = False := by simp; omega
    simp [lf59, encT, h5, h4']
    simp only [lf59_B0, vc_block]
    generalize hsd : w.text = s at h4 ⊢
    refine loop_ind (fun fr H => ∃ i : Nat, i ≤ s.length ∧ fr 1 = .optr 0 0 0 0 ∧ fr 4 = .p (.int .i64 (Lex.decN (s.take i) : Nat)) ∧ fr 5 = .p (.int .i64 (i : Int)) ∧ (s.take i).all isDigit = true ∧ H[0]? = some ⟨5, 0, false, [.p (.agg [.bool false, .int .i64 5, .str s, .int .i64 w.at_, .lst []])], 29⟩)
     (fun fr _ => s.length - ivar (fr 5)) ⟨0, by simp, by simp, by simp [Lex.decN], by simp, by simp, by simp⟩ ?_
    rintro fr H ⟨i, hi, f1, f4, f5, hall, g0⟩
    by_cases hlt : i < s.length
    ·obtain ⟨c, hc⟩ : ∃ c, s[i]? = some c := ⟨_, List.getElem?_eq_getElem hlt⟩
     have hc' := getE hc
     have hdn := decN_next hc
     cases hdg : isDigit c with
     | false =>
      have hm : numM s = (0, false) := by
       unfold numM
       rw [if_neg]
       rintro ⟨h1, _, _⟩
       have := List.all_eq_true.1 h1 c (List.mem_of_getElem? hc)
       rw [hdg] at this; cases this
      simp [f1, f4, f5, g0, hlt, hc', sByte_b8, hdg, hm]
     | true =>
      have hall' : (s.take (i + 1)).all isDigit = true := by
       rw [List.take_add_one, hc, List.all_append, hall]
       show (true && [c].all isDigit) = true
       rw [List.all_cons, hdg]; rfl
      have hsm := decN_small (i + 1) (s.take (i + 1)) hall' (by omega)
      rw [List.take_take, Nat.min_self] at hsm
      have hd1 : 48 ≤ c.toNat ∧ c.toNat ≤ 57 := by
       unfold isDigit at hdg
       simp only [Bool.and_eq_true, decide_eq_true_eq] at hdg
       omega
      have w1 : IntKind.i64.wrap ((Lex.decN (s.take i) : Int) * 10) = (Lex.decN (s.take i) : Int) * 10 := IntWalk.i64_in _ (by omega)
      have w2 : IntKind.u8.wrap ((c.toNat : Int) - 48) = ((c.toNat - 48 : Nat) : Int) := by
       have key : ∀ k, k < 10 → IntKind.u8.wrap ((k : Nat) : Int) = (k : Int) := by decide +kernel
       have e : (c.toNat : Int) - 48 = ((c.toNat - 48 : Nat) : Int) := by omega
       rw [e, key _ (by omega)]
      have w3 : IntKind.i64.wrap ((c.toNat - 48 : Nat) : Int) = ((c.toNat - 48 : Nat) : Int) := IntWalk.i64_in _ (by omega)
      have w4 : IntKind.i64.wrap ((Lex.decN (s.take i) : Int) * 10 + ((c.toNat - 48 : Nat) : Int)) = (Lex.decN (s.take (i + 1)) : Nat) := by rw [IntWalk.i64_in _ (by omega), hdn]; omega
      generalize c.toNat - 48 = ck at *
      generalize Lex.decN (s.take i) = a at *
      generalize hbd : Lex.decN (s.take (i + 1)) = b at *
      simp [f1, f4, f5, g0, hlt, hc', sByte_b8, hdg, w1, w2, w3, w4, wrap_succ (i := i) (by omega)]
      exact ⟨⟨i + 1, by omega, by rw [hbd], by simp, fun x hx => List.all_eq_true.1 hall' x hx⟩, by simp only [ivar]; omega⟩
    ·have hil : i = s.length := by omega
     subst hil
     rw [List.take_length] at f4 hall
     by_cases h0 : s = []
     ·subst h0
      have hm : numM [] = (0, false) := rfl
      simp [f1, f4, f5, g0, hm, Lex.decN]
     ·have hm : numM s = (Lex.decN s, decide (Lex.decN s ≤ 1000)) := by unfold numM; rw [if_pos ⟨hall, h0, h4⟩]
      have hpos : 0 < s.length := List.length_pos_iff.2 h0
      rw [hm]
      by_cases h1 : Lex.decN s ≤ 1000
      ·have h1' : ((Lex.decN s : Int) ≤ 1000) = True := by simp; omega
       simp [f1, f4, f5, g0, h1, h1', hpos]
      ·have h1' : ((Lex.decN s : Int) ≤ 1000) = False := by simp; omega
       simp [f1, f4, f5, g0, h1, h1']
   ·have h4' : ((4 : Int) < w.text.length) = True := by simp; omega
    have hm : numM w.text = (0, false) := by unfold numM; rw [if_neg (fun e => h4 e.2.2)]
    simp [lf59, encT, h5, h4', hm]
  ·have h5' : (w.kind != 5) = true := by simpa using h5
   rw [if_neg h5]
   simp [lf59, encT, h5']
def sRQt : List PVal → Option PVal
 | [.str s] => if s.length ≤ 100000 then some (.str (wrW 3 s)) else none
 | _ => none
def Trq : Tab := (Tab.none.with 60 (pureS sRes)).with 61 (pureS sQuoteR)
theorem Trq_ok : TabOk Tryz.prog base1 Trq := Tab.with_ok (Tab.with_ok Tab.none_ok rres_ok) quoteR_ok
theorem Trq_mu (f : FuncId) (a : List AVal) (H : Heap) : Trq.mu f a H = none := (rfl)
theorem Trq_1 : Trq.fn 60 = pureS sRes := (rfl)
theorem Trq_2 : Trq.fn 61 = pureS sQuoteR := (rfl)
attribute [local simp] Trq_mu Trq_1 Trq_2
theorem rquote_ok : FnOk Tryz.prog base1 35 (pureS sRQt) := by
 refine pure_of_vc hmix Trq_ok globNone low35 fun args x hs hf => ?_
 unfold sRQt at hs
 split at hs
 case h_2 => cases hs
 rename_i s
 split at hs
 case isFalse => cases hs
 rename_i hl
 cases hs
 refine ⟨by simp [lf35], ?_⟩
 have h1 : sRes [.str s] = some (.bool (isRes s)) := rfl
 have h2 : sQuoteR [.str s] = (match quoteS s with
  | some q => some (.tup [.str q, .bool true])
  | none => some (.tup [.str [], .bool false])) := if_pos hl
 unfold wrW
 rw [if_pos rfl]
 cases hr : isRes s with
 | true =>
  rw [hr] at h1
  simp [lf35, h1]
 | false =>
  rw [hr] at h1
  cases hq : quoteS s with
  | none => rw [hq] at h2; simp [lf35, h1, h2]
  | some q => rw [hq] at h2; simp [lf35, h1, h2]
theorem dbl_len : ∀ l : List UInt8, (dbl l).length ≤ 2 * l.length
 | [] => Nat.le_refl _
 | c :: l => by
  have := dbl_len l
  unfold dbl
  split <;> simp only [List.length_cons] <;> omega
theorem dbl_snoc : ∀ (l : List UInt8) (c : UInt8), dbl (l ++ [c]) = dbl l ++ (if c = 34 then [34, 34] else [c])
 | [], c => by
  show dbl [c] = _
  unfold dbl
  split <;> rfl
 | d :: l, c => by
  rw [List.cons_append, dbl, dbl, dbl_snoc l c]
  split <;> rfl
def sRQd : List PVal → Option PVal
 | [.str s] => if s.length ≤ 100000 then some (.str (34 :: (dbl s ++ [34]))) else none
 | _ => none
theorem rquoted_ok : FnOk Tryz.prog base 37 (pureS sRQd) := by
 refine pure_of_vc hmix Tab.none_ok globNone low37 fun args x hs hf => ?_
 unfold sRQd at hs
 split at hs
 case h_2 => cases hs
 rename_i s
 split at hs
 case isFalse => cases hs
 rename_i hl
 cases hs
 refine ⟨by simp [lf37], ?_⟩
 simp [lf37]
 simp only [lf37_B0, vc_block]
 refine loop_ind (fun fr H => ∃ i : Nat, i ≤ s.length ∧ fr 0 = .p (.str s) ∧ fr 4 = .p (.int .i64 (i : Int)) ∧ fr 3 = .p (.str (34 :: dbl (s.take i))))
  (fun fr _ => s.length - ivar (fr 4)) ⟨0, by simp, by simp, by simp, by simp [dbl]⟩ ?_
 rintro fr H ⟨i, hi, f0, f4, f3⟩
 have hdl := dbl_len (s.take i)
 rw [List.length_take] at hdl
 by_cases hlt : i < s.length
 ·obtain ⟨c, hc⟩ : ∃ c, s[i]? = some c := ⟨_, List.getElem?_eq_getElem hlt⟩
  have hc' := getE hc
  have hnx : dbl (s.take (i + 1)) = dbl (s.take i) ++ (if c = 34 then [34, 34] else [c]) := by
   rw [List.take_add_one, hc]; exact dbl_snoc _ _
  have hsl : (s.take (i + 1)).drop i = [c] := by
   rw [List.take_add_one, hc, List.drop_append, List.drop_of_length_le (by rw [List.length_take]; omega)]
   rw [List.length_take, Nat.min_eq_left hi, Nat.sub_self]; rfl
  generalize dbl (s.take i) = D at *
  have hD : ∀ k, 9000000000000000000 ≤ k → (D.length ≤ k) = True := fun k hk => by simp; omega
  have hw := wrap_succ (i := i) (by omega)
  have q1 : ((i : Int) ≤ i + 1) = True := by simp; omega
  have q2 : ((i : Int) + 1 ≤ s.length) = True := by simp; omega
  have q3 : ((i : Int) + 1).toNat = i + 1 := by omega
  by_cases h34 : c = 34
  ·subst h34
   rw [if_pos rfl] at hnx
   simp [f0, f4, f3, hlt, hc', hw, q1, q2, q3, hsl, binS, maxLen, hD]
   exact ⟨⟨i + 1, by omega, by simp, hnx.symm⟩, by simp only [ivar]; omega⟩
  ·rw [if_neg h34] at hnx
   have h34' : ((c.toNat : Int) == 34) = false := by
    simp
    intro h
    exact h34 (UInt8.toNat_inj.1 (by have : (34 : UInt8).toNat = 34 := rfl; omega))
   simp [f0, f4, f3, hlt, hc', hw, q1, q2, q3, hsl, h34', binS, maxLen, hD]
   exact ⟨⟨i + 1, by omega, by simp, hnx.symm⟩, by simp only [ivar]; omega⟩
 ·have hil : i = s.length := by omega
  subst hil
  rw [List.take_length] at f3 hdl
  have hD : ∀ k, 9000000000000000000 ≤ k → ((dbl s).length ≤ k) = True := fun k hk => by simp; omega
  simp [f0, f4, f3, binS, maxLen, hD]
end Go.Proofs.YtcbagnlidecmkaaGreatDoor

/-
 The reference's Parse: what it computes, and its simple commands.
-/
namespace Go.Proofs.YtcbagnlidecmkaaGreatDoor
open Go Go.Abs Go.Lex Go.Sexp
set_option maxRecDepth 20000
attribute [local irreducible] vc
attribute [local simp] pureS touchV freezeL fuel shiftV
variable {base : Prot} {m : Int}
def zC : Cmd Wd := c0 zW 0
def tx (t : Tr Wd) : List UInt8 := txtT key t
def hdS : List (Tr Wd) → List UInt8
 | a :: _ => tx a
 | [] => []
def hdB : List (Tr Wd) → Bool
 | a :: _ => sb a
 | [] => false
def rSet (k : Nat) : List (Tr Wd) → Bool × Cmd Wd
 | [a] => if isK key 4 a = true then (k == 3, { c0 zW k with name := tx a }) else (false, zC)
 | [a, b] => if isK key 4 a = true then (true, { c0 zW k with name := tx a, term := b }) else (false, zC)
 | _ => (false, zC)
def rSort : List (Tr Wd) → Bool × Cmd Wd
 | [a, b] => (sb a && (numT b).2 && ((numT b).1 == 0), { c0 zW 4 with name := tx a })
 | l => (hdB l && decide (l.length ≤ 2), { c0 zW 4 with name := hdS l })
def rConst : List (Tr Wd) → Bool × Cmd Wd
 | [a, b] => (sb a && sb b, { c0 zW 5 with name := tx a, result := tx b })
 | _ => (false, zC)
def rFun : List (Tr Wd) → Bool × Cmd Wd
 | [a, .list ks, r] => if ks.all sb = true then (sb a && sb r, { c0 zW 5 with name := tx a, params := ks.map (fun t => ([], tx t)), result := tx r }) else (false, zC)
 | _ => (false, zC)
def rDef : List (Tr Wd) → Bool × Cmd Wd
 | [a, .list ks, r, t] => match pars key ks [] with
  | some q => (sb a && sb r, { c0 zW 6 with name := tx a, params := q, result := tx r, term := t })
  | none => (false, zC)
 | _ => (false, zC)
def rLev (k : Nat) : List (Tr Wd) → Bool × Cmd Wd
 | [] => (true, { c0 zW k with n := 1 })
 | [a] => ((numT a).2, { c0 zW k with n := (numT a).1 })
 | _ => (false, { c0 zW k with n := 1 })
def rVal : List (Tr Wd) → Bool × Cmd Wd
 | [.list (t :: r)] => (true, { c0 zW 12 with terms := t :: r })
 | _ => (false, zC)
def rEcho : List (Tr Wd) → Bool × Cmd Wd
 | [a] => if isK key 7 a = true then (true, { c0 zW 13 with name := tx a }) else (false, zC)
 | _ => (false, zC)
def rK (k : Nat) (l : List (Tr Wd)) : Bool × Cmd Wd :=
 if k = 1 then (l.length == 1 && hdB l, { c0 zW 1 with name := hdS l })
 else if k = 2 ∨ k = 3 then rSet k l
 else if k = 4 then rSort l
 else if k = 5 then rFun l
 else if k = 6 then rDef l
 else if k = 7 then (match l with | [a] => (true, { c0 zW 7 with term := a }) | _ => (false, zC))
 else if k = 8 ∨ k = 9 then rLev k l
 else if k = 12 then rVal l
 else if k = 13 then rEcho l
 else if k = 10 ∨ k = 11 ∨ k = 14 ∨ k = 15 then (l.isEmpty, c0 zW k)
 else (false, zC)
def rPar : Tr Wd → Bool × Cmd Wd
 | .list (h :: l) => if sb h = true then (if tx h = declConst then rConst l else rK (kindOf (tx h)) l) else (false, zC)
 | _ => (false, zC)
theorem sym_tx (t : Tr Wd) : symT key t = if sb t = true then some (tx t) else none := by
 cases t with
 | leaf w =>
  show (if w.kind = 3 then some w.text else none) = if (if w.kind = 3 then some w.text else none).isSome = true then some w.text else none
  by_cases h : w.kind = 3 <;> simp [h]
 | list l => rfl
theorem num_got (t : Tr Wd) : isK key 5 t = true → numK (tx t) = if (numT t).2 = true then some (numT t).1 else none := fun h => by
 unfold numT
 rw [if_pos h]
 exact numM_K _
theorem num_no {t : Tr Wd} (h : isK key 5 t = false) : numT t = (0, false) := by unfold numT; rw [if_neg (by simp [h])]
theorem set_got (k : Nat) (l : List (Tr Wd)) : got (rSet k l) = setB key zW k l := by
 match l with
 | [] => rfl
 | _ :: _ :: _ :: _ => rfl
 | [a] =>
  simp only [rSet, setB]
  cases ha : isK key 4 a with
  | false => simp [got]
  | true => 
   by_cases hk : k = 3
   ·subst hk; rfl
   ·simp [got, hk]
 | [a, b] =>
  simp only [rSet, setB]
  cases ha : isK key 4 a <;> rfl
theorem sort_got (l : List (Tr Wd)) : got (rSort l) = sortB key zW l := by
 match l with
 | [] => rfl
 | a :: b :: d :: r =>
  have : (rSort (a :: b :: d :: r)).1 = false := by simp [rSort]
  unfold got
  rw [this]; rfl
 | [a] =>
  simp only [rSort, sortB, sym_tx]
  cases ha : sb a with
  | false => simp [got, hdB, ha]
  | true => simp [got, hdB, ha, hdS]
 | [a, b] =>
  simp only [rSort, sortB, sym_tx]
  cases hb : isK key 5 b with
  | false => rw [num_no hb]; simp [got]
  | true =>
   have hn := num_got b hb
   have e : txtT key b = tx b := rfl
   rw [e, hn]
   cases h2 : (numT b).2 with
   | false => simp [got]
   | true =>
    by_cases h1 : (numT b).1 = 0
    ·cases ha : sb a <;> simp [got, h1]
    ·simp [got, h1]
theorem rconst_got (l : List (Tr Wd)) : got (rConst l) = constB key zW l := by
 match l with
 | [] => rfl
 | [_] => rfl
 | _ :: _ :: _ :: _ => rfl
 | [a, r] =>
  simp only [rConst, constB, funB, sym_tx, syms]
  cases ha : sb a <;> cases hr : sb r <;> simp [got, c0, zW]
theorem syms_tx : ∀ ks : List (Tr Wd), syms key ks = if ks.all sb = true then some (ks.map tx) else none
 | [] => rfl
 | t :: r => by
  simp only [syms, sym_tx, syms_tx r, List.all_cons, List.map_cons]
  cases sb t <;> cases r.all sb <;> rfl
theorem rfun_got (l : List (Tr Wd)) : got (rFun l) = funB key zW l := by
 match l with
 | [] => rfl
 | [_] => rfl
 | [_, d] => cases d <;> rfl
 | _ :: d :: _ :: _ :: _ => cases d <;> rfl
 | [_, .leaf _, _] => rfl
 | [a, .list ks, r] =>
  simp only [rFun, funB, sym_tx, syms_tx]
  cases ha : sb a <;> cases hr : sb r <;> cases hk : ks.all sb <;> simp [got, c0, zW]
theorem rdef_got (l : List (Tr Wd)) : got (rDef l) = defB key zW l := by
 match l with
 | [] => rfl
 | [_] => rfl
 | [_, d] => cases d <;> rfl
 | [_, d, _] => cases d <;> rfl
 | _ :: d :: _ :: _ :: _ :: _ => cases d <;> rfl
 | [_, .leaf _, _, _] => rfl
 | [a, .list ks, r, t] =>
  simp only [rDef, defB, sym_tx]
  cases hp : pars key ks [] with
  | none => cases ha : sb a <;> cases hr : sb r <;> simp [got]
  | some q => cases ha : sb a <;> cases hr : sb r <;> simp [got, c0, zW]
theorem rlev_got (k : Nat) (l : List (Tr Wd)) : got (rLev k l) = levB key zW k l := by
 match l with
 | [] => rfl
 | _ :: _ :: _ => rfl
 | [a] =>
  simp only [rLev, levB]
  cases hb : isK key 5 a with
  | false => rw [num_no hb]; rfl
  | true =>
   have hn := num_got a hb
   have e : txtT key a = tx a := rfl
   rw [e, hn]
   cases h2 : (numT a).2 <;> simp [got, h2]
theorem rval_got (l : List (Tr Wd)) : got (rVal l) = valB zW l := by
 match l with
 | [] => rfl
 | [.leaf _] => rfl
 | [.list []] => rfl
 | [.list (_ :: _)] => rfl
 | a :: _ :: _ => match a with
  | .leaf _ => rfl
  | .list [] => rfl
  | .list (_ :: _) => rfl
theorem rK_got (kd : Nat) (l : List (Tr Wd)) : got (rK kd l) = body key zW kd l := by
 unfold rK body
 by_cases e1 : kd = 1
 ·rw [if_pos e1, if_pos e1]
  match l with
  | [] => rfl
  | _ :: _ :: _ => simp [got]
  | [a] =>
   simp only [sym_tx]
   cases ha : sb a <;> simp [got, hdB, hdS, ha]
 rw [if_neg e1, if_neg e1]
 by_cases e2 : kd = 2 ∨ kd = 3
 ·rw [if_pos e2, if_pos e2]; exact set_got kd l
 rw [if_neg e2, if_neg e2]
 by_cases e4 : kd = 4
 ·rw [if_pos e4, if_pos e4]; exact sort_got l
 rw [if_neg e4, if_neg e4]
 by_cases e5 : kd = 5
 ·rw [if_pos e5, if_pos e5]; exact rfun_got l
 rw [if_neg e5, if_neg e5]
 by_cases e6 : kd = 6
 ·rw [if_pos e6, if_pos e6]; exact rdef_got l
 rw [if_neg e6, if_neg e6]
 by_cases e7 : kd = 7
 ·rw [if_pos e7, if_pos e7]
  match l with
  | [] => rfl
  | _ :: _ :: _ => rfl
  | [a] => rfl
 rw [if_neg e7, if_neg e7]
 by_cases e8 : kd = 8 ∨ kd = 9
 ·rw [if_pos e8, if_pos e8]; exact rlev_got kd l
 rw [if_neg e8, if_neg e8]
 by_cases e12 : kd = 12
 ·rw [if_pos e12, if_pos e12]; exact rval_got l
 rw [if_neg e12, if_neg e12]
 by_cases e13 : kd = 13
 ·rw [if_pos e13, if_pos e13]
  match l with
  | [] => rfl
  | _ :: _ :: _ => rfl
  | [a] =>
   simp only [rEcho]
   cases isK key 7 a <;> rfl
 rw [if_neg e13, if_neg e13]
 by_cases e10 : kd = 10 ∨ kd = 11 ∨ kd = 14 ∨ kd = 15
 ·rw [if_pos e10, if_pos e10]
  match l with
  | [] => rfl
  | _ :: _ => rfl
 ·rw [if_neg e10, if_neg e10]; rfl
theorem rPar_got (t : Tr Wd) : got (rPar t) = parse key zW t := by
 match t with
 | .leaf _ => rfl
 | .list [] => rfl
 | .list (h :: l) =>
  simp only [rPar, parse, sym_tx]
  cases hb : sb h with
  | false => rfl
  | true =>
   simp only [if_true]
   by_cases hc : tx h = declConst
   ·rw [if_pos hc, if_pos hc]; exact rconst_got l
   ·rw [if_neg hc, if_neg hc]; exact rK_got _ l
end Go.Proofs.YtcbagnlidecmkaaGreatDoor
