/-
  The reference's Parse on simple commands. No conditions beyond the lemmas' own hypotheses.
-/
import Derived.Test.YtcbagnlidecmkaaGreatDoorScriptK
set_option linter.unusedSimpArgs false
set_option linter.unnecessarySimpa false
set_option linter.unusedVariables false
set_option linter.constructorNameAsVariable false

/-
 The reference's Parse: the walks of its simple commands, part 1.
-/
namespace Go.Proofs.YtcbagnlidecmkaaGreatDoor
open Go Go.Abs Go.Lex Go.Sexp
set_option maxRecDepth 20000
attribute [local irreducible] vc
attribute [local simp] pureS touchV freezeL fuel shiftV
def Trp : Tab := (Tab.none.with 58 (pureS sRSym)).with 59 (pureS sRNum)
theorem Trp_ok {base : Prot} : TabOk Tryz.prog base Trp := Tab.with_ok (Tab.with_ok Tab.none_ok rsymbol_ok) rnumber_ok
theorem Trp_mu (f : FuncId) (a : List AVal) (H : Heap) : Trp.mu f a H = none := (rfl)
theorem Trp_1 : Trp.fn 58 = pureS sRSym := (rfl)
theorem Trp_2 : Trp.fn 59 = pureS sRNum := (rfl)
def RP (t : Tr Wd) (q : Bool × Cmd Wd) : Prop := vc Trp lf34.body (endQ Trp lf34.results (.tup [encC q.2, .bool q.1])) (initFr [.p (encT t)]) []
theorem sym_head (s : List UInt8) (p : Nat) : sRSym [.agg [.bool false, .int .i64 3, .str s, .int .i64 p, .lst []]] = some (.tup [.str s, .bool true]) := by
 have h := sRSym_at (.leaf ⟨3, s, p⟩)
 have e : sb (.leaf ⟨3, s, p⟩) = true := rfl
 rw [e] at h
 exact h
theorem sizeOk_cons (n : Nat) (cs l : List PVal) : sizeOk n (.agg cs :: l) = (cs.length == n && sizeOk n l) := rfl
theorem sizeOk_tree (t : Tr Wd) (l : List PVal) : sizeOk 5 (encT t :: l) = sizeOk 5 l := by
 obtain ⟨b, k, s, a, vs, hen⟩ := encT_shape t
 rw [hen]; rfl
theorem sizeOk_nil (n : Nat) : sizeOk n [] = true := rfl
theorem tx_leaf (w : Wd) : tx (.leaf w) = w.text := rfl
theorem txtT_tx (t : Tr Wd) : txtT key t = tx t := rfl
theorem isK_l (k : Int) (w : Wd) : isK key k (.leaf w) = (w.kind == k) := rfl
theorem isK_n (k : Int) (ks : List (Tr Wd)) : isK key k (.list ks) = false := rfl
theorem encC_name (k : Nat) (s : List UInt8) : encC { c0 zW k with name := s } = .agg [.int .i64 k, .str s, .lst [], .str [], .bool false, .int .i64 0, .str [], .int .i64 0, .lst [], .lst [], .int .i64 0] := rfl
theorem encC_z : encC zC = .agg [.int .i64 0, .str [], .lst [], .str [], .bool false, .int .i64 0, .str [], .int .i64 0, .lst [], .lst [], .int .i64 0] := rfl
theorem encC_c0 (k : Nat) : encC (c0 zW k) = .agg [.int .i64 k, .str [], .lst [], .str [], .bool false, .int .i64 0, .str [], .int .i64 0, .lst [], .lst [], .int .i64 0] := rfl
theorem rp_1 (p : Nat) (l : List (Tr Wd)) : RP (.list (.leaf ⟨3, [115, 101, 116, 45, 108, 111, 103, 105, 99], p⟩ :: l)) (l.length == 1 && hdB l, { c0 zW 1 with name := hdS l }) := by
 match l with
 | [] => simp [lf34, Trp_mu, Trp_1, Trp_2, RP, encT, encL, sym_head, txtT_tx, binS, fillA, sizeOk_cons, sizeOk_tree, sizeOk_nil, sizeOk_enc, hdS, hdB, encC_name]
 | [a] =>
  obtain ⟨a1, a2, a3, a4, a5, aen⟩ := encT_shape a
  have asy := sRSym_at a
  rw [aen] at asy
  simp [lf34, Trp_mu, Trp_1, Trp_2, RP, encT, encL, sym_head, txtT_tx, binS, fillA, sizeOk_cons, sizeOk_tree, sizeOk_nil, sizeOk_enc, hdS, hdB, encC_name, aen, asy]
 | a :: b :: r =>
  obtain ⟨a1, a2, a3, a4, a5, aen⟩ := encT_shape a
  have asy := sRSym_at a
  rw [aen] at asy
  have e0 : (((encL r).length : Int) + 1 + 1 + 1 == 0) = false := by simp <;> omega
  have e1 : (((encL r).length : Int) + 1 + 1 == 1) = false := by simp <;> omega
  have e2 : ((0 : Int) < (encL r).length + 1 + 1) = True := by simp <;> omega
  have e4 : (((encL r).length : Int) + 1 + 1 + 1).toNat = (encL r).length + 3 := by omega
  have e5 : ((1 : Int) ≤ (encL r).length + 1 + 1 + 1) = True := by simp <;> omega
  simp [lf34, Trp_mu, Trp_1, Trp_2, RP, encT, encL, sym_head, txtT_tx, binS, fillA, sizeOk_cons, sizeOk_tree, sizeOk_nil, sizeOk_enc, hdS, hdB, encC_name, aen, asy, e0, e1, e2, e4, e5]
theorem rp_2 (p : Nat) (l : List (Tr Wd)) : RP (.list (.leaf ⟨3, [115, 101, 116, 45, 111, 112, 116, 105, 111, 110], p⟩ :: l)) (rSet 2 l) := by
 match l with
 | [] => simp [lf34, Trp_mu, Trp_1, Trp_2, RP, encT, encL, sym_head, txtT_tx, binS, fillA, sizeOk_cons, sizeOk_tree, sizeOk_nil, sizeOk_enc, rSet, encC_z]
 | [.list ks] =>
  have asy := sRSym_at (.list ks)
  simp only [encT] at asy
  simp [lf34, Trp_mu, Trp_1, Trp_2, RP, encT, encL, sym_head, txtT_tx, binS, fillA, sizeOk_cons, sizeOk_tree, sizeOk_nil, sizeOk_enc, rSet, encC_z, isK_n, asy]
 | [.leaf w] =>
  have asy := sRSym_at (.leaf w)
  simp only [encT] at asy
  by_cases hk : w.kind = 4
  ·rw [hk] at asy
   simp [lf34, Trp_mu, Trp_1, Trp_2, RP, encT, encL, sym_head, txtT_tx, binS, fillA, sizeOk_cons, sizeOk_tree, sizeOk_nil, sizeOk_enc, rSet, encC_name, tx_leaf, isK_l, hk, asy]
  ·have hk' : (w.kind != 4) = true := by simpa using hk
   simp [lf34, Trp_mu, Trp_1, Trp_2, RP, encT, encL, sym_head, txtT_tx, binS, fillA, sizeOk_cons, sizeOk_tree, sizeOk_nil, sizeOk_enc, rSet, encC_z, isK_l, hk, hk', asy]
 | [.list ks, b] =>
  obtain ⟨b1, b2, b3, b4, b5, ben⟩ := encT_shape b
  have bsy := sRSym_at b
  rw [ben] at bsy
  have asy := sRSym_at (.list ks)
  simp only [encT] at asy
  simp [lf34, Trp_mu, Trp_1, Trp_2, RP, encT, encL, sym_head, txtT_tx, binS, fillA, sizeOk_cons, sizeOk_tree, sizeOk_nil, sizeOk_enc, rSet, encC_z, isK_n, asy, ben]
 | [.leaf w, b] =>
  obtain ⟨b1, b2, b3, b4, b5, ben⟩ := encT_shape b
  have bsy := sRSym_at b
  rw [ben] at bsy
  have asy := sRSym_at (.leaf w)
  simp only [encT] at asy
  by_cases hk : w.kind = 4
  ·rw [hk] at asy
   have he := encC_at (c := (⟨2, w.text, [], [], b, [], 0⟩ : Cmd Wd)) ben
   simp [lf34, Trp_mu, Trp_1, Trp_2, RP, encT, encL, sym_head, txtT_tx, binS, fillA, sizeOk_cons, sizeOk_tree, sizeOk_nil, sizeOk_enc, rSet, he, c0, tx_leaf, isK_l, hk, asy, ben]
  ·have hk' : (w.kind != 4) = true := by simpa using hk
   simp [lf34, Trp_mu, Trp_1, Trp_2, RP, encT, encL, sym_head, txtT_tx, binS, fillA, sizeOk_cons, sizeOk_tree, sizeOk_nil, sizeOk_enc, rSet, encC_z, isK_l, hk, hk', asy, ben]
 | a :: b :: c :: r =>
  obtain ⟨a1, a2, a3, a4, a5, aen⟩ := encT_shape a
  have asy := sRSym_at a
  rw [aen] at asy
  have e0 : (((encL r).length : Int) + 1 + 1 + 1 + 1 == 0) = false := by simp <;> omega
  have e1 : (((encL r).length : Int) + 1 + 1 + 1 < 1) = False := by simp <;> omega
  have e2 : ((2 : Int) < (encL r).length + 1 + 1 + 1) = True := by simp <;> omega
  have e3 : ((0 : Int) < (encL r).length + 1 + 1 + 1) = True := by simp <;> omega
  have e4 : (((encL r).length : Int) + 1 + 1 + 1 + 1).toNat = (encL r).length + 4 := by omega
  have e5 : ((1 : Int) ≤ (encL r).length + 1 + 1 + 1 + 1) = True := by simp <;> omega
  simp [lf34, Trp_mu, Trp_1, Trp_2, RP, encT, encL, sym_head, txtT_tx, binS, fillA, sizeOk_cons, sizeOk_tree, sizeOk_nil, sizeOk_enc, rSet, encC_z, aen, asy, e0, e1, e2, e3, e4, e5]
theorem rp_3 (p : Nat) (l : List (Tr Wd)) : RP (.list (.leaf ⟨3, [115, 101, 116, 45, 105, 110, 102, 111], p⟩ :: l)) (rSet 3 l) := by
 match l with
 | [] => simp [lf34, Trp_mu, Trp_1, Trp_2, RP, encT, encL, sym_head, txtT_tx, binS, fillA, sizeOk_cons, sizeOk_tree, sizeOk_nil, sizeOk_enc, rSet, encC_z]
 | [.list ks] =>
  have asy := sRSym_at (.list ks)
  simp only [encT] at asy
  simp [lf34, Trp_mu, Trp_1, Trp_2, RP, encT, encL, sym_head, txtT_tx, binS, fillA, sizeOk_cons, sizeOk_tree, sizeOk_nil, sizeOk_enc, rSet, encC_z, isK_n, asy]
 | [.leaf w] =>
  have asy := sRSym_at (.leaf w)
  simp only [encT] at asy
  by_cases hk : w.kind = 4
  ·rw [hk] at asy
   simp [lf34, Trp_mu, Trp_1, Trp_2, RP, encT, encL, sym_head, txtT_tx, binS, fillA, sizeOk_cons, sizeOk_tree, sizeOk_nil, sizeOk_enc, rSet, encC_name, tx_leaf, isK_l, hk, asy]
  ·have hk' : (w.kind != 4) = true := by simpa using hk
   simp [lf34, Trp_mu, Trp_1, Trp_2, RP, encT, encL, sym_head, txtT_tx, binS, fillA, sizeOk_cons, sizeOk_tree, sizeOk_nil, sizeOk_enc, rSet, encC_z, isK_l, hk, hk', asy]
 | [.list ks, b] =>
  obtain ⟨b1, b2, b3, b4, b5, ben⟩ := encT_shape b
  have bsy := sRSym_at b
  rw [ben] at bsy
  have asy := sRSym_at (.list ks)
  simp only [encT] at asy
  simp [lf34, Trp_mu, Trp_1, Trp_2, RP, encT, encL, sym_head, txtT_tx, binS, fillA, sizeOk_cons, sizeOk_tree, sizeOk_nil, sizeOk_enc, rSet, encC_z, isK_n, asy, ben]
 | [.leaf w, b] =>
  obtain ⟨b1, b2, b3, b4, b5, ben⟩ := encT_shape b
  have bsy := sRSym_at b
  rw [ben] at bsy
  have asy := sRSym_at (.leaf w)
  simp only [encT] at asy
  by_cases hk : w.kind = 4
  ·rw [hk] at asy
   have he := encC_at (c := (⟨3, w.text, [], [], b, [], 0⟩ : Cmd Wd)) ben
   simp [lf34, Trp_mu, Trp_1, Trp_2, RP, encT, encL, sym_head, txtT_tx, binS, fillA, sizeOk_cons, sizeOk_tree, sizeOk_nil, sizeOk_enc, rSet, he, c0, tx_leaf, isK_l, hk, asy, ben]
  ·have hk' : (w.kind != 4) = true := by simpa using hk
   simp [lf34, Trp_mu, Trp_1, Trp_2, RP, encT, encL, sym_head, txtT_tx, binS, fillA, sizeOk_cons, sizeOk_tree, sizeOk_nil, sizeOk_enc, rSet, encC_z, isK_l, hk, hk', asy, ben]
 | a :: b :: c :: r =>
  obtain ⟨a1, a2, a3, a4, a5, aen⟩ := encT_shape a
  have asy := sRSym_at a
  rw [aen] at asy
  have e0 : (((encL r).length : Int) + 1 + 1 + 1 + 1 == 0) = false := by simp <;> omega
  have e1 : (((encL r).length : Int) + 1 + 1 + 1 < 1) = False := by simp <;> omega
  have e2 : ((2 : Int) < (encL r).length + 1 + 1 + 1) = True := by simp <;> omega
  have e3 : ((0 : Int) < (encL r).length + 1 + 1 + 1) = True := by simp <;> omega
  have e4 : (((encL r).length : Int) + 1 + 1 + 1 + 1).toNat = (encL r).length + 4 := by omega
  have e5 : ((1 : Int) ≤ (encL r).length + 1 + 1 + 1 + 1) = True := by simp <;> omega
  simp [lf34, Trp_mu, Trp_1, Trp_2, RP, encT, encL, sym_head, txtT_tx, binS, fillA, sizeOk_cons, sizeOk_tree, sizeOk_nil, sizeOk_enc, rSet, encC_z, aen, asy, e0, e1, e2, e3, e4, e5]
end Go.Proofs.YtcbagnlidecmkaaGreatDoor

/-
 The reference's Parse: the walks of its simple commands, part 2.
-/
namespace Go.Proofs.YtcbagnlidecmkaaGreatDoor
open Go Go.Abs Go.Lex Go.Sexp
set_option maxRecDepth 20000
attribute [local irreducible] vc
attribute [local simp] pureS touchV freezeL fuel shiftV
theorem rp_4 (p : Nat) (l : List (Tr Wd)) : RP (.list (.leaf ⟨3, [100, 101, 99, 108, 97, 114, 101, 45, 115, 111, 114, 116], p⟩ :: l)) (rSort l) := by
 match l with
 | [] => simp [lf34, Trp_mu, Trp_1, Trp_2, RP, encT, encL, sym_head, txtT_tx, binS, fillA, sizeOk_cons, sizeOk_tree, sizeOk_nil, sizeOk_enc, rSort, hdS, hdB, encC_name]
 | [a] =>
  obtain ⟨a1, a2, a3, a4, a5, aen⟩ := encT_shape a
  have asy := sRSym_at a
  rw [aen] at asy
  cases hqa : sb a <;> rw [hqa] at asy <;> simp [lf34, Trp_mu, Trp_1, Trp_2, RP, encT, encL, sym_head, txtT_tx, binS, fillA, sizeOk_cons, sizeOk_tree, sizeOk_nil, sizeOk_enc, rSort, hdS, hdB, encC_name, aen, asy, hqa]
 | [a, b] =>
  obtain ⟨a1, a2, a3, a4, a5, aen⟩ := encT_shape a
  have asy := sRSym_at a
  rw [aen] at asy
  obtain ⟨b1, b2, b3, b4, b5, ben⟩ := encT_shape b
  have bsy := sRSym_at b
  rw [ben] at bsy
  have bnm := sRNum_at b
  rw [ben] at bnm
  have hz : (((numT b).1 : Int) == 0) = ((numT b).1 == 0) := by rw [Bool.eq_iff_iff]; simp
  cases hqa : sb a <;> rw [hqa] at asy <;> cases hqb : (numT b).2 <;> rw [hqb] at bnm <;> simp [lf34, Trp_mu, Trp_1, Trp_2, RP, encT, encL, sym_head, txtT_tx, binS, fillA, sizeOk_cons, sizeOk_tree, sizeOk_nil, sizeOk_enc, rSort, hdS, hdB, encC_name, aen, asy, ben, bnm, hz, hqa, hqb]
 | a :: b :: c :: r =>
  obtain ⟨a1, a2, a3, a4, a5, aen⟩ := encT_shape a
  have asy := sRSym_at a
  rw [aen] at asy
  have e0 : (((encL r).length : Int) + 1 + 1 + 1 + 1 == 0) = false := by simp <;> omega
  have e3 : ((0 : Int) < (encL r).length + 1 + 1 + 1) = True := by simp <;> omega
  have e4 : (((encL r).length : Int) + 1 + 1 + 1 + 1).toNat = (encL r).length + 4 := by omega
  have e5 : ((1 : Int) ≤ (encL r).length + 1 + 1 + 1 + 1) = True := by simp <;> omega
  have e1 : (((encL r).length : Int) + 1 + 1 + 1 == 2) = false := by simp <;> omega
  have e2 : (((encL r).length : Int) + 1 + 1 + 1 ≤ 2) = False := by simp <;> omega
  cases hqa : sb a <;> rw [hqa] at asy <;> simp [lf34, Trp_mu, Trp_1, Trp_2, RP, encT, encL, sym_head, txtT_tx, binS, fillA, sizeOk_cons, sizeOk_tree, sizeOk_nil, sizeOk_enc, rSort, hdS, hdB, encC_name, aen, asy, hqa, e0, e1, e2, e3, e4, e5]
theorem rp_c (p : Nat) (l : List (Tr Wd)) : RP (.list (.leaf ⟨3, [100, 101, 99, 108, 97, 114, 101, 45, 99, 111, 110, 115, 116], p⟩ :: l)) (rConst l) := by
 match l with
 | [] => simp [lf34, Trp_mu, Trp_1, Trp_2, RP, encT, encL, sym_head, txtT_tx, binS, fillA, sizeOk_cons, sizeOk_tree, sizeOk_nil, sizeOk_enc, rConst, encC_z]
 | [a] =>
  obtain ⟨a1, a2, a3, a4, a5, aen⟩ := encT_shape a
  have asy := sRSym_at a
  rw [aen] at asy
  simp [lf34, Trp_mu, Trp_1, Trp_2, RP, encT, encL, sym_head, txtT_tx, binS, fillA, sizeOk_cons, sizeOk_tree, sizeOk_nil, sizeOk_enc, rConst, encC_z, aen, asy]
 | [a, b] =>
  obtain ⟨a1, a2, a3, a4, a5, aen⟩ := encT_shape a
  have asy := sRSym_at a
  rw [aen] at asy
  obtain ⟨b1, b2, b3, b4, b5, ben⟩ := encT_shape b
  have bsy := sRSym_at b
  rw [ben] at bsy
  have he : encC { c0 zW 5 with name := tx a, result := tx b } = .agg [.int .i64 5, .str (tx a), .lst [], .str (tx b), .bool false, .int .i64 0, .str [], .int .i64 0, .lst [], .lst [], .int .i64 0] := rfl
  cases hqa : sb a <;> rw [hqa] at asy <;> cases hqb : sb b <;> rw [hqb] at bsy <;> simp [lf34, Trp_mu, Trp_1, Trp_2, RP, encT, encL, sym_head, txtT_tx, binS, fillA, sizeOk_cons, sizeOk_tree, sizeOk_nil, sizeOk_enc, rConst, he, aen, asy, ben, bsy, hqa, hqb]
 | a :: b :: c :: r =>
  obtain ⟨a1, a2, a3, a4, a5, aen⟩ := encT_shape a
  have asy := sRSym_at a
  rw [aen] at asy
  have e0 : (((encL r).length : Int) + 1 + 1 + 1 + 1 == 0) = false := by simp <;> omega
  have e3 : ((0 : Int) < (encL r).length + 1 + 1 + 1) = True := by simp <;> omega
  have e4 : (((encL r).length : Int) + 1 + 1 + 1 + 1).toNat = (encL r).length + 4 := by omega
  have e5 : ((1 : Int) ≤ (encL r).length + 1 + 1 + 1 + 1) = True := by simp <;> omega
  have e1 : (((encL r).length : Int) + 1 + 1 + 1 != 2) = true := by simp <;> omega
  simp [lf34, Trp_mu, Trp_1, Trp_2, RP, encT, encL, sym_head, txtT_tx, binS, fillA, sizeOk_cons, sizeOk_tree, sizeOk_nil, sizeOk_enc, rConst, encC_z, aen, asy, e0, e1, e3, e4, e5]
theorem rp_7 (p : Nat) (l : List (Tr Wd)) : RP (.list (.leaf ⟨3, [97, 115, 115, 101, 114, 116], p⟩ :: l)) (rK 7 l) := by
 match l with
 | [] => simp [lf34, Trp_mu, Trp_1, Trp_2, RP, encT, encL, sym_head, txtT_tx, binS, fillA, sizeOk_cons, sizeOk_tree, sizeOk_nil, sizeOk_enc, rK, encC_z]
 | [a] =>
  obtain ⟨a1, a2, a3, a4, a5, aen⟩ := encT_shape a
  have asy := sRSym_at a
  rw [aen] at asy
  have he := encC_at (c := (⟨7, [], [], [], a, [], 0⟩ : Cmd Wd)) aen
  simp [lf34, Trp_mu, Trp_1, Trp_2, RP, encT, encL, sym_head, txtT_tx, binS, fillA, sizeOk_cons, sizeOk_tree, sizeOk_nil, sizeOk_enc, rK, he, c0, aen, asy]
 | a :: b :: r =>
  obtain ⟨a1, a2, a3, a4, a5, aen⟩ := encT_shape a
  have asy := sRSym_at a
  rw [aen] at asy
  have e0 : (((encL r).length : Int) + 1 + 1 + 1 == 0) = false := by simp <;> omega
  have e3 : ((0 : Int) < (encL r).length + 1 + 1) = True := by simp <;> omega
  have e4 : (((encL r).length : Int) + 1 + 1 + 1).toNat = (encL r).length + 3 := by omega
  have e5 : ((1 : Int) ≤ (encL r).length + 1 + 1 + 1) = True := by simp <;> omega
  have e1 : (((encL r).length : Int) + 1 + 1 != 1) = true := by simp <;> omega
  simp [lf34, Trp_mu, Trp_1, Trp_2, RP, encT, encL, sym_head, txtT_tx, binS, fillA, sizeOk_cons, sizeOk_tree, sizeOk_nil, sizeOk_enc, rK, encC_z, aen, asy, e0, e1, e3, e4, e5]
theorem rp_8 (p : Nat) (l : List (Tr Wd)) : RP (.list (.leaf ⟨3, [112, 117, 115, 104], p⟩ :: l)) (rLev 8 l) := by
 have hn : ∀ i : Nat, encC { c0 zW 8 with n := i } = .agg [.int .i64 8, .str [], .lst [], .str [], .bool false, .int .i64 0, .str [], .int .i64 0, .lst [], .lst [], .int .i64 i] := fun _ => rfl
 match l with
 | [] => simp [lf34, Trp_mu, Trp_1, Trp_2, RP, encT, encL, sym_head, txtT_tx, binS, fillA, sizeOk_cons, sizeOk_tree, sizeOk_nil, sizeOk_enc, rLev, hn]
 | [a] =>
  obtain ⟨a1, a2, a3, a4, a5, aen⟩ := encT_shape a
  have asy := sRSym_at a
  rw [aen] at asy
  have anm := sRNum_at a
  rw [aen] at anm
  simp [lf34, Trp_mu, Trp_1, Trp_2, RP, encT, encL, sym_head, txtT_tx, binS, fillA, sizeOk_cons, sizeOk_tree, sizeOk_nil, sizeOk_enc, rLev, hn, aen, asy, anm]
 | a :: b :: r =>
  obtain ⟨a1, a2, a3, a4, a5, aen⟩ := encT_shape a
  have asy := sRSym_at a
  rw [aen] at asy
  have e0 : (((encL r).length : Int) + 1 + 1 + 1 == 0) = false := by simp <;> omega
  have e3 : ((0 : Int) < (encL r).length + 1 + 1) = True := by simp <;> omega
  have e4 : (((encL r).length : Int) + 1 + 1 + 1).toNat = (encL r).length + 3 := by omega
  have e5 : ((1 : Int) ≤ (encL r).length + 1 + 1 + 1) = True := by simp <;> omega
  have e1 : (((encL r).length : Int) + 1 + 1 == 1) = false := by simp <;> omega
  have e2 : (((encL r).length : Int) + 1 + 1 == 0) = false := by simp <;> omega
  simp [lf34, Trp_mu, Trp_1, Trp_2, RP, encT, encL, sym_head, txtT_tx, binS, fillA, sizeOk_cons, sizeOk_tree, sizeOk_nil, sizeOk_enc, rLev, hn, aen, asy, e0, e1, e2, e3, e4, e5]
theorem rp_9 (p : Nat) (l : List (Tr Wd)) : RP (.list (.leaf ⟨3, [112, 111, 112], p⟩ :: l)) (rLev 9 l) := by
 have hn : ∀ i : Nat, encC { c0 zW 9 with n := i } = .agg [.int .i64 9, .str [], .lst [], .str [], .bool false, .int .i64 0, .str [], .int .i64 0, .lst [], .lst [], .int .i64 i] := fun _ => rfl
 match l with
 | [] => simp [lf34, Trp_mu, Trp_1, Trp_2, RP, encT, encL, sym_head, txtT_tx, binS, fillA, sizeOk_cons, sizeOk_tree, sizeOk_nil, sizeOk_enc, rLev, hn]
 | [a] =>
  obtain ⟨a1, a2, a3, a4, a5, aen⟩ := encT_shape a
  have asy := sRSym_at a
  rw [aen] at asy
  have anm := sRNum_at a
  rw [aen] at anm
  simp [lf34, Trp_mu, Trp_1, Trp_2, RP, encT, encL, sym_head, txtT_tx, binS, fillA, sizeOk_cons, sizeOk_tree, sizeOk_nil, sizeOk_enc, rLev, hn, aen, asy, anm]
 | a :: b :: r =>
  obtain ⟨a1, a2, a3, a4, a5, aen⟩ := encT_shape a
  have asy := sRSym_at a
  rw [aen] at asy
  have e0 : (((encL r).length : Int) + 1 + 1 + 1 == 0) = false := by simp <;> omega
  have e3 : ((0 : Int) < (encL r).length + 1 + 1) = True := by simp <;> omega
  have e4 : (((encL r).length : Int) + 1 + 1 + 1).toNat = (encL r).length + 3 := by omega
  have e5 : ((1 : Int) ≤ (encL r).length + 1 + 1 + 1) = True := by simp <;> omega
  have e1 : (((encL r).length : Int) + 1 + 1 == 1) = false := by simp <;> omega
  have e2 : (((encL r).length : Int) + 1 + 1 == 0) = false := by simp <;> omega
  simp [lf34, Trp_mu, Trp_1, Trp_2, RP, encT, encL, sym_head, txtT_tx, binS, fillA, sizeOk_cons, sizeOk_tree, sizeOk_nil, sizeOk_enc, rLev, hn, aen, asy, e0, e1, e2, e3, e4, e5]
end Go.Proofs.YtcbagnlidecmkaaGreatDoor

/-
 The reference's Parse: the walks of its simple commands, part 3.
-/
namespace Go.Proofs.YtcbagnlidecmkaaGreatDoor
open Go Go.Abs Go.Lex Go.Sexp
set_option maxRecDepth 20000
attribute [local irreducible] vc
attribute [local simp] pureS touchV freezeL fuel shiftV
theorem rp_10 (p : Nat) (l : List (Tr Wd)) : RP (.list (.leaf ⟨3, [99, 104, 101, 99, 107, 45, 115, 97, 116], p⟩ :: l)) (l.isEmpty, c0 zW 10) := by
 match l with
 | [] => simp [lf34, Trp_mu, Trp_1, Trp_2, RP, encT, encL, sym_head, txtT_tx, binS, fillA, sizeOk_cons, sizeOk_tree, sizeOk_nil, sizeOk_enc, encC_c0]
 | a :: r =>
  obtain ⟨a1, a2, a3, a4, a5, aen⟩ := encT_shape a
  have asy := sRSym_at a
  rw [aen] at asy
  have e0 : (((encL r).length : Int) + 1 + 1 == 0) = false := by simp <;> omega
  have e3 : ((0 : Int) < (encL r).length + 1) = True := by simp <;> omega
  have e4 : (((encL r).length : Int) + 1 + 1).toNat = (encL r).length + 2 := by omega
  have e5 : ((1 : Int) ≤ (encL r).length + 1 + 1) = True := by simp <;> omega
  have e1 : (((encL r).length : Int) + 1 == 0) = false := by simp <;> omega
  simp [lf34, Trp_mu, Trp_1, Trp_2, RP, encT, encL, sym_head, txtT_tx, binS, fillA, sizeOk_cons, sizeOk_tree, sizeOk_nil, sizeOk_enc, encC_c0, aen, asy, e0, e1, e3, e4, e5]
theorem rp_11 (p : Nat) (l : List (Tr Wd)) : RP (.list (.leaf ⟨3, [103, 101, 116, 45, 109, 111, 100, 101, 108], p⟩ :: l)) (l.isEmpty, c0 zW 11) := by
 match l with
 | [] => simp [lf34, Trp_mu, Trp_1, Trp_2, RP, encT, encL, sym_head, txtT_tx, binS, fillA, sizeOk_cons, sizeOk_tree, sizeOk_nil, sizeOk_enc, encC_c0]
 | a :: r =>
  obtain ⟨a1, a2, a3, a4, a5, aen⟩ := encT_shape a
  have asy := sRSym_at a
  rw [aen] at asy
  have e0 : (((encL r).length : Int) + 1 + 1 == 0) = false := by simp <;> omega
  have e3 : ((0 : Int) < (encL r).length + 1) = True := by simp <;> omega
  have e4 : (((encL r).length : Int) + 1 + 1).toNat = (encL r).length + 2 := by omega
  have e5 : ((1 : Int) ≤ (encL r).length + 1 + 1) = True := by simp <;> omega
  have e1 : (((encL r).length : Int) + 1 == 0) = false := by simp <;> omega
  simp [lf34, Trp_mu, Trp_1, Trp_2, RP, encT, encL, sym_head, txtT_tx, binS, fillA, sizeOk_cons, sizeOk_tree, sizeOk_nil, sizeOk_enc, encC_c0, aen, asy, e0, e1, e3, e4, e5]
theorem rp_14 (p : Nat) (l : List (Tr Wd)) : RP (.list (.leaf ⟨3, [114, 101, 115, 101, 116], p⟩ :: l)) (l.isEmpty, c0 zW 14) := by
 match l with
 | [] => simp [lf34, Trp_mu, Trp_1, Trp_2, RP, encT, encL, sym_head, txtT_tx, binS, fillA, sizeOk_cons, sizeOk_tree, sizeOk_nil, sizeOk_enc, encC_c0]
 | a :: r =>
  obtain ⟨a1, a2, a3, a4, a5, aen⟩ := encT_shape a
  have asy := sRSym_at a
  rw [aen] at asy
  have e0 : (((encL r).length : Int) + 1 + 1 == 0) = false := by simp <;> omega
  have e3 : ((0 : Int) < (encL r).length + 1) = True := by simp <;> omega
  have e4 : (((encL r).length : Int) + 1 + 1).toNat = (encL r).length + 2 := by omega
  have e5 : ((1 : Int) ≤ (encL r).length + 1 + 1) = True := by simp <;> omega
  have e1 : (((encL r).length : Int) + 1 == 0) = false := by simp <;> omega
  simp [lf34, Trp_mu, Trp_1, Trp_2, RP, encT, encL, sym_head, txtT_tx, binS, fillA, sizeOk_cons, sizeOk_tree, sizeOk_nil, sizeOk_enc, encC_c0, aen, asy, e0, e1, e3, e4, e5]
theorem rp_15 (p : Nat) (l : List (Tr Wd)) : RP (.list (.leaf ⟨3, [101, 120, 105, 116], p⟩ :: l)) (l.isEmpty, c0 zW 15) := by
 match l with
 | [] => simp [lf34, Trp_mu, Trp_1, Trp_2, RP, encT, encL, sym_head, txtT_tx, binS, fillA, sizeOk_cons, sizeOk_tree, sizeOk_nil, sizeOk_enc, encC_c0]
 | a :: r =>
  obtain ⟨a1, a2, a3, a4, a5, aen⟩ := encT_shape a
  have asy := sRSym_at a
  rw [aen] at asy
  have e0 : (((encL r).length : Int) + 1 + 1 == 0) = false := by simp <;> omega
  have e3 : ((0 : Int) < (encL r).length + 1) = True := by simp <;> omega
  have e4 : (((encL r).length : Int) + 1 + 1).toNat = (encL r).length + 2 := by omega
  have e5 : ((1 : Int) ≤ (encL r).length + 1 + 1) = True := by simp <;> omega
  have e1 : (((encL r).length : Int) + 1 == 0) = false := by simp <;> omega
  simp [lf34, Trp_mu, Trp_1, Trp_2, RP, encT, encL, sym_head, txtT_tx, binS, fillA, sizeOk_cons, sizeOk_tree, sizeOk_nil, sizeOk_enc, encC_c0, aen, asy, e0, e1, e3, e4, e5]
theorem rp_12 (p : Nat) (l : List (Tr Wd)) : RP (.list (.leaf ⟨3, [103, 101, 116, 45, 118, 97, 108, 117, 101], p⟩ :: l)) (rVal l) := by
 match l with
 | [] => simp [lf34, Trp_mu, Trp_1, Trp_2, RP, encT, encL, sym_head, txtT_tx, binS, fillA, sizeOk_cons, sizeOk_tree, sizeOk_nil, sizeOk_enc, rVal, encC_z]
 | [.leaf w] =>
  have asy := sRSym_at (.leaf w)
  simp only [encT] at asy
  simp [lf34, Trp_mu, Trp_1, Trp_2, RP, encT, encL, sym_head, txtT_tx, binS, fillA, sizeOk_cons, sizeOk_tree, sizeOk_nil, sizeOk_enc, rVal, encC_z, asy]
 | [.list []] =>
  have asy := sRSym_at (.list [])
  simp only [encT, encL] at asy
  simp [lf34, Trp_mu, Trp_1, Trp_2, RP, encT, encL, sym_head, txtT_tx, binS, fillA, sizeOk_cons, sizeOk_tree, sizeOk_nil, sizeOk_enc, rVal, encC_z, asy]
 | [.list (t :: ks)] =>
  have asy := sRSym_at (.list (t :: ks))
  simp only [encT, encL] at asy
  have he : encC { c0 zW 12 with terms := t :: ks } = .agg [.int .i64 12, .str [], .lst [], .str [], .bool false, .int .i64 0, .str [], .int .i64 0, .lst [], .lst (encT t :: encL ks), .int .i64 0] := rfl
  have q1 : (((encL ks).length : Int) + 1 == 0) = false := by simp <;> omega
  simp [lf34, Trp_mu, Trp_1, Trp_2, RP, encT, encL, sym_head, txtT_tx, binS, fillA, sizeOk_cons, sizeOk_tree, sizeOk_nil, sizeOk_enc, rVal, he, asy, q1]
 | .leaf w :: b :: r =>
  have asy := sRSym_at (.leaf w)
  simp only [encT] at asy
  have e0 : (((encL r).length : Int) + 1 + 1 + 1 == 0) = false := by simp <;> omega
  have e3 : ((0 : Int) < (encL r).length + 1 + 1) = True := by simp <;> omega
  have e4 : (((encL r).length : Int) + 1 + 1 + 1).toNat = (encL r).length + 3 := by omega
  have e5 : ((1 : Int) ≤ (encL r).length + 1 + 1 + 1) = True := by simp <;> omega
  have e1 : (((encL r).length : Int) + 1 + 1 != 1) = true := by simp <;> omega
  simp [lf34, Trp_mu, Trp_1, Trp_2, RP, encT, encL, sym_head, txtT_tx, binS, fillA, sizeOk_cons, sizeOk_tree, sizeOk_nil, sizeOk_enc, rVal, encC_z, asy, e0, e1, e3, e4, e5]
 | .list ks :: b :: r =>
  have asy := sRSym_at (.list ks)
  simp only [encT] at asy
  have hr : rVal (.list ks :: b :: r) = (false, zC) := by cases ks <;> rfl
  have e0 : (((encL r).length : Int) + 1 + 1 + 1 == 0) = false := by simp <;> omega
  have e3 : ((0 : Int) < (encL r).length + 1 + 1) = True := by simp <;> omega
  have e4 : (((encL r).length : Int) + 1 + 1 + 1).toNat = (encL r).length + 3 := by omega
  have e5 : ((1 : Int) ≤ (encL r).length + 1 + 1 + 1) = True := by simp <;> omega
  have e1 : (((encL r).length : Int) + 1 + 1 != 1) = true := by simp <;> omega
  rw [hr]
  simp [lf34, Trp_mu, Trp_1, Trp_2, RP, encT, encL, sym_head, txtT_tx, binS, fillA, sizeOk_cons, sizeOk_tree, sizeOk_nil, sizeOk_enc, encC_z, asy, e0, e1, e3, e4, e5]
theorem rp_13 (p : Nat) (l : List (Tr Wd)) : RP (.list (.leaf ⟨3, [101, 99, 104, 111], p⟩ :: l)) (rEcho l) := by
 match l with
 | [] => simp [lf34, Trp_mu, Trp_1, Trp_2, RP, encT, encL, sym_head, txtT_tx, binS, fillA, sizeOk_cons, sizeOk_tree, sizeOk_nil, sizeOk_enc, rEcho, encC_z]
 | [.list ks] =>
  have asy := sRSym_at (.list ks)
  simp only [encT] at asy
  simp [lf34, Trp_mu, Trp_1, Trp_2, RP, encT, encL, sym_head, txtT_tx, binS, fillA, sizeOk_cons, sizeOk_tree, sizeOk_nil, sizeOk_enc, rEcho, encC_z, isK_n, asy]
 | [.leaf w] =>
  have asy := sRSym_at (.leaf w)
  simp only [encT] at asy
  by_cases hk : w.kind = 7
  ·rw [hk] at asy
   simp [lf34, Trp_mu, Trp_1, Trp_2, RP, encT, encL, sym_head, txtT_tx, binS, fillA, sizeOk_cons, sizeOk_tree, sizeOk_nil, sizeOk_enc, rEcho, encC_name, tx_leaf, isK_l, hk, asy]
  ·have hk' : (w.kind != 7) = true := by simpa using hk
   simp [lf34, Trp_mu, Trp_1, Trp_2, RP, encT, encL, sym_head, txtT_tx, binS, fillA, sizeOk_cons, sizeOk_tree, sizeOk_nil, sizeOk_enc, rEcho, encC_z, isK_l, hk, hk', asy]
 | a :: b :: r =>
  obtain ⟨a1, a2, a3, a4, a5, aen⟩ := encT_shape a
  have asy := sRSym_at a
  rw [aen] at asy
  have e0 : (((encL r).length : Int) + 1 + 1 + 1 == 0) = false := by simp <;> omega
  have e3 : ((0 : Int) < (encL r).length + 1 + 1) = True := by simp <;> omega
  have e4 : (((encL r).length : Int) + 1 + 1 + 1).toNat = (encL r).length + 3 := by omega
  have e5 : ((1 : Int) ≤ (encL r).length + 1 + 1 + 1) = True := by simp <;> omega
  have e1 : (((encL r).length : Int) + 1 + 1 != 1) = true := by simp <;> omega
  simp [lf34, Trp_mu, Trp_1, Trp_2, RP, encT, encL, sym_head, txtT_tx, binS, fillA, sizeOk_cons, sizeOk_tree, sizeOk_nil, sizeOk_enc, rEcho, encC_z, aen, asy, e0, e1, e3, e4, e5]
theorem rp_other (s : List UInt8) (p : Nat) (l : List (Tr Wd)) (hs : ∀ x ∈ declConst :: nmList, (s == x) = false) : RP (.list (.leaf ⟨3, s, p⟩ :: l)) (false, zC) := by
 have n0 := hs [115, 101, 116, 45, 108, 111, 103, 105, 99] (by decide +kernel)
 have n1 := hs [115, 101, 116, 45, 111, 112, 116, 105, 111, 110] (by decide +kernel)
 have n2 := hs [115, 101, 116, 45, 105, 110, 102, 111] (by decide +kernel)
 have n3 := hs [100, 101, 99, 108, 97, 114, 101, 45, 115, 111, 114, 116] (by decide +kernel)
 have n4 := hs [100, 101, 99, 108, 97, 114, 101, 45, 102, 117, 110] (by decide +kernel)
 have n5 := hs [100, 101, 102, 105, 110, 101, 45, 102, 117, 110] (by decide +kernel)
 have n6 := hs [97, 115, 115, 101, 114, 116] (by decide +kernel)
 have n7 := hs [112, 117, 115, 104] (by decide +kernel)
 have n8 := hs [112, 111, 112] (by decide +kernel)
 have n9 := hs [99, 104, 101, 99, 107, 45, 115, 97, 116] (by decide +kernel)
 have n10 := hs [103, 101, 116, 45, 109, 111, 100, 101, 108] (by decide +kernel)
 have n11 := hs [103, 101, 116, 45, 118, 97, 108, 117, 101] (by decide +kernel)
 have n12 := hs [101, 99, 104, 111] (by decide +kernel)
 have n13 := hs [114, 101, 115, 101, 116] (by decide +kernel)
 have n14 := hs [101, 120, 105, 116] (by decide +kernel)
 have n15 := hs [100, 101, 99, 108, 97, 114, 101, 45, 99, 111, 110, 115, 116] (by decide +kernel)
 match l with
 | [] => simp [lf34, Trp_mu, Trp_1, Trp_2, RP, encT, encL, sym_head, txtT_tx, binS, fillA, sizeOk_cons, sizeOk_tree, sizeOk_nil, sizeOk_enc, encC_z, n0, n1, n2, n3, n4, n5, n6, n7, n8, n9, n10, n11, n12, n13, n14, n15]
 | a :: r =>
  obtain ⟨a1, a2, a3, a4, a5, aen⟩ := encT_shape a
  have asy := sRSym_at a
  rw [aen] at asy
  have e0 : (((encL r).length : Int) + 1 + 1 == 0) = false := by simp <;> omega
  have e3 : ((0 : Int) < (encL r).length + 1) = True := by simp <;> omega
  have e4 : (((encL r).length : Int) + 1 + 1).toNat = (encL r).length + 2 := by omega
  have e5 : ((1 : Int) ≤ (encL r).length + 1 + 1) = True := by simp <;> omega
  simp [lf34, Trp_mu, Trp_1, Trp_2, RP, encT, encL, sym_head, txtT_tx, binS, fillA, sizeOk_cons, sizeOk_tree, sizeOk_nil, sizeOk_enc, encC_z, aen, asy, e0, e3, e4, e5, n0, n1, n2, n3, n4, n5, n6, n7, n8, n9, n10, n11, n12, n13, n14, n15]
theorem rp_leaf (w : Wd) : RP (.leaf w) (false, zC) := by simp [lf34, Trp_mu, Trp_1, Trp_2, RP, encT, encL, sym_head, txtT_tx, binS, fillA, sizeOk_cons, sizeOk_tree, sizeOk_nil, sizeOk_enc, encC_z]
theorem rp_nil : RP (.list []) (false, zC) := by simp [lf34, Trp_mu, Trp_1, Trp_2, RP, encT, encL, sym_head, txtT_tx, binS, fillA, sizeOk_cons, sizeOk_tree, sizeOk_nil, sizeOk_enc, encC_z]
theorem rp_head (h : Tr Wd) (l : List (Tr Wd)) (hb : sb h = false) : RP (.list (h :: l)) (false, zC) := by
  obtain ⟨h1, h2, h3, h4, h5, hen⟩ := encT_shape h
  have hsy := sRSym_at h
  rw [hen] at hsy
  have f0 : (((encL l).length : Int) + 1 == 0) = false := by simp <;> omega
  have f4 : (((encL l).length : Int) + 1).toNat = (encL l).length + 1 := by omega
  have f5 : ((1 : Int) ≤ (encL l).length + 1) = True := by simp <;> omega
  rw [hb] at hsy
  simp [lf34, Trp_mu, Trp_1, Trp_2, RP, encT, encL, sym_head, txtT_tx, binS, fillA, sizeOk_cons, sizeOk_tree, sizeOk_nil, sizeOk_enc, encC_z, hen, hsy, f0, f4, f5]
end Go.Proofs.YtcbagnlidecmkaaGreatDoor
