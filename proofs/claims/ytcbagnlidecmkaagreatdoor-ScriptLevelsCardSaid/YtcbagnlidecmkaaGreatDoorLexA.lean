/-
  What lex's small functions compute. No conditions beyond the lemmas' own hypotheses.
-/
import Derived.Test.YtcbagnlidecmkaaGreatDoorLexL
import Derived.Test.YtcbagnlidecmkaaGreatDoorAbsThree
import Derived.Lib.Bytealg
import Derived.Test.YtcbagnlidecmkaaGreatDoorLexP
import Derived.IntWalk
set_option linter.unusedSimpArgs false
set_option linter.unnecessarySimpa false
set_option linter.unusedVariables false
set_option linter.constructorNameAsVariable false

/-
 lex: functions of one byte.
-/
namespace Go.Proofs.YtcbagnlidecmkaaGreatDoor
open Go Go.Abs Go.Lex
set_option maxRecDepth 20000
variable {base : Prot}
theorem hmix : Tryz.prog.follows .mixedOrders = true := by kernel_rfl
theorem indexByte_ge0 (c : UInt8) : ∀ l : List UInt8, decide (0 ≤ Lib.indexByte l c) = l.contains c
 | [] => by simp [Lib.indexByte]
 | b :: l => by
  have ih := indexByte_ge0 c l
  have hg := Lib.indexByte_ge l c
  unfold Lib.indexByte
  by_cases h : b = c
  ·subst h; simp
  ·have h' : ¬ c = b := fun e => h e.symm
   have h1 : (b == c) = false := by simpa using h
   rw [h1]
   simp only [Bool.false_eq_true, if_false, List.contains_cons]
   have h2 : (c == b) = false := by simpa using h'
   rw [h2, Bool.false_or, ← ih]
   by_cases h3 : Lib.indexByte l c = -1
   ·simp [h3]
   ·have : (Lib.indexByte l c == -1) = false := by simpa using h3
    rw [this]
    simp only [Bool.false_eq_true, if_false]
    apply decide_eq_decide.2
    omega
def sByte (p : UInt8 → Bool) : List PVal → Option PVal
 | [.int .u8 n] => if 0 ≤ n ∧ n < 256 then some (.bool (p (UInt8.ofNat n.toNat))) else none
 | _ => none
theorem sByte_b8 (p : UInt8 → Bool) (b : UInt8) : sByte p [.int .u8 (b.toNat : Int)] = some (.bool (p b)) := by
 have : b.toNat < 256 := UInt8.toNat_lt b
 simp [sByte]
 omega
theorem sByte_some {p : UInt8 → Bool} {args : List PVal} {x : PVal} (h : sByte p args = some x) : ∃ b : UInt8, args = [b8 b] ∧ x = .bool (p b) := by
 unfold sByte at h
 split at h
 ·rename_i n
  split at h
  ·rename_i hn
   cases h
   obtain ⟨m, rfl⟩ := Int.eq_ofNat_of_zero_le hn.1
   have hm : m < 256 := by omega
   refine ⟨UInt8.ofNat m, ?_, by simp⟩
   simp [UInt8.toNat_ofNat', Nat.mod_eq_of_lt hm]
  ·cases h
 ·cases h
theorem byte_of_vc {T : Tab} (hT : TabOk Tryz.prog base T) {f : FuncId} {lf : LFunc} (hl : lowFunc Tryz.prog gl0 f = some lf) {p : UInt8 → Bool} (hn : 1 ≤ lf.n)
  (h : ∀ b : UInt8, vc T lf.body (endQ T lf.results (.bool (p b))) (initFr [.p (.int .u8 b.toNat)]) []) : FnOk Tryz.prog base f (pureS (sByte p)) := by
 refine pure_of_vc hmix hT globNone hl fun args x hs _ => ?_
 obtain ⟨b, rfl, rfl⟩ := sByte_some hs
 exact ⟨by simpa using hn, h b⟩
theorem digit_ok : FnOk Tryz.prog base 101 (pureS (sByte isDigit)) := by
 refine byte_of_vc Tab.none_ok low101 (by simp [lf101]) fun b => ?_
 by_cases h : (48 : Int) ≤ b.toNat <;> simp [lf101, h, isDigit]
theorem rdigit_ok : FnOk Tryz.prog base 66 (pureS (sByte isDigit)) := by
 refine byte_of_vc Tab.none_ok low66 (by simp [lf66]) fun b => ?_
 by_cases h : (48 : Int) ≤ b.toNat <;> simp [lf66, h, isDigit]
def sIdx : List PVal → Option PVal
 | [.str l, .int .u8 n] => some (.int .i64 (Lib.indexByte l n.toNat.toUInt8))
 | _ => none
theorem idxE_ok : ∀ ps x, sIdx ps = some x → ExtOk Tryz.prog 137 ps x := by
 intro ps x h
 unfold sIdx at h
 split at h
 case h_2 => cases h
 rename_i l n
 cases h
 obtain ⟨fn, hfn⟩ : ∃ fn, Tryz.prog.funcs[137]? = some fn := ⟨_, rfl⟩
 refine ⟨fn, Extern.BytealgIndexByte.indexByte, hfn, ?_, ?_, ?_, ?_, fun pr w vs hl hr => ?_⟩
 ·cases hfn; kernel_rfl
 ·cases hfn; kernel_rfl
 ·cases hfn; kernel_rfl
 ·cases hfn; kernel_rfl
 ·match vs, hl with
  | [a, b], _ =>
   have ha := hr 0 _ a rfl rfl
   have hb := hr 1 _ b rfl rfl
   cases ha
   cases hb
   exact ⟨_, Lib.run_indexByteString _ _ w, by simpa using PRep.int _ _⟩
theorem idx39_ok : FnOk Tryz.prog base 124 (pureS sIdx) := by
 refine pure_of_vc hmix (Tab.ext_ok Tab.none_ok idxE_ok) globNone low124 fun args x hs _ => ?_
 unfold sIdx at hs
 split at hs
 case h_2 => cases hs
 cases hs
 refine ⟨by simp [lf124], ?_⟩
 simp [lf124, Tab.ext, allP, sIdx]
end Go.Proofs.YtcbagnlidecmkaaGreatDoor

/-
 lex: functions of one byte, the second part.
-/
namespace Go.Proofs.YtcbagnlidecmkaaGreatDoor
open Go Go.Abs Go.Lex
variable {base : Prot}
set_option maxRecDepth 20000
def T39 : Tab := Tab.none.with 124 (pureS sIdx)
theorem T39_ok : TabOk Tryz.prog base T39 := Tab.with_ok Tab.none_ok idx39_ok
attribute [local simp] Tab.with Tab.none pureS touchV freezeL fuel shiftV
theorem idx32_ok : FnOk Tryz.prog base 102 (pureS sIdx) := by
 refine pure_of_vc hmix T39_ok globNone low102 fun args x hs _ => ?_
 unfold sIdx at hs
 split at hs
 case h_2 => cases hs
 cases hs
 refine ⟨by simp [lf102], ?_⟩
 simp [lf102, T39, sIdx]
def Tb : Tab := (Tab.none.with 102 (pureS sIdx)).with 101 (pureS (sByte isDigit))
theorem Tb_ok : TabOk Tryz.prog base Tb := Tab.with_ok (Tab.with_ok Tab.none_ok idx32_ok) digit_ok
theorem idx_b8 (l : List UInt8) (b : UInt8) : sIdx [.str l, .int .u8 (b.toNat : Int)] = some (.int .i64 (Lib.indexByte l b)) := by simp [sIdx]
theorem sign_ok : FnOk Tryz.prog base 100 (pureS (sByte isSign)) := by
 refine byte_of_vc Tb_ok low100 (by simp [lf100]) fun b => ?_
 have hi : sIdx [.str [126, 33, 64, 36, 37, 94, 38, 42, 95, 45, 43, 61, 60, 62, 46, 63, 47], .int .u8 (b.toNat : Int)] = some (.int .i64 (Lib.indexByte signs b)) := idx_b8 _ b
 have hg := indexByte_ge0 b signs
 unfold isSign
 generalize signs.contains b = s at hg ⊢
 generalize Lib.indexByte signs b = i at hi hg
 cases hd : isDigit b with
 | true => simp [lf100, Tb, sByte_b8, hd]
 | false =>
  by_cases h1 : (97 : Int) ≤ b.toNat
  ·by_cases h2 : (b.toNat : Int) ≤ 122
   ·simp [lf100, Tb, sByte_b8, hd, h1, h2]
   ·have h4 : ¬ (b.toNat : Int) ≤ 90 := by omega
    have h3 : (65 : Int) ≤ b.toNat := by omega
    simp [lf100, Tb, sByte_b8, hd, h1, h2, h3, h4, hi, hg]
  ·by_cases h3 : (65 : Int) ≤ b.toNat
   ·by_cases h4 : (b.toNat : Int) ≤ 90
    ·simp [lf100, Tb, sByte_b8, hd, h1, h3, h4]
    ·simp [lf100, Tb, sByte_b8, hd, h1, h3, h4, hi, hg]
   ·simp [lf100, Tb, sByte_b8, hd, h1, h3, hi, hg]
theorem inner_ok : FnOk Tryz.prog base 88 (pureS (sByte isInner)) := by
 refine byte_of_vc Tb_ok low88 (by simp [lf88]) fun b => ?_
 by_cases h1 : (32 : Int) < b.toNat <;> cases h2 : ((b.toNat : Int) != 127) <;>
  simp [lf88, Tb, idx_b8, indexByte_ge0, isInner, isBlank, h1, h2]
theorem rblank_ok : FnOk Tryz.prog base 42 (pureS (sByte isBlank)) := by
 refine byte_of_vc Tab.none_ok low42 (by simp [lf42]) fun b => ?_
 have e : isBlank b = (((b.toNat : Int) == 32) || ((b.toNat : Int) == 9) || ((b.toNat : Int) == 10) || ((b.toNat : Int) == 13)) := by
  have h : ∀ k : UInt8, (b == k) = ((b.toNat : Int) == (k.toNat : Int)) := fun k => by
   rw [Bool.eq_iff_iff]; simp [← UInt8.toNat_inj]; omega
  simp only [isBlank, List.contains_cons, h, List.contains_nil, Bool.or_false]
  rw [show ((32 : UInt8).toNat : Int) = 32 from rfl, show ((9 : UInt8).toNat : Int) = 9 from rfl, show ((10 : UInt8).toNat : Int) = 10 from rfl, show ((13 : UInt8).toNat : Int) = 13 from rfl]
  simp [Bool.or_assoc]
 rw [e]
 cases h1 : ((b.toNat : Int) == 32) <;> cases h2 : ((b.toNat : Int) == 9) <;> cases h3 : ((b.toNat : Int) == 10) <;> cases h4 : ((b.toNat : Int) == 13) <;> simp [lf42, h1, h2, h3, h4]
end Go.Proofs.YtcbagnlidecmkaaGreatDoor

/-
 lex: Plain and sign of the reference.
-/
namespace Go.Proofs.YtcbagnlidecmkaaGreatDoor
open Go Go.Abs Go.Lex
variable {base : Prot}
set_option maxRecDepth 20000
attribute [local simp] Tab.with Tab.none pureS touchV freezeL fuel shiftV
theorem wrap_succ {i : Nat} (h : i < 9223372036854775807) : IntKind.i64.wrap ((i : Int) + 1) = ((i + 1 : Nat) : Int) := by
 rw [IntWalk.i64_in _ (by omega)]; omega
def ivar : AVal → Nat
 | .p (.int _ n) => n.toNat
 | _ => 0
def Td : Tab := Tab.none.with 66 (pureS (sByte isDigit))
theorem Td_ok : TabOk Tryz.prog base Td := Tab.with_ok Tab.none_ok rdigit_ok
theorem mem_take_succ {α : Type} {l : List α} {i : Nat} {c b : α} (h : l[i]? = some c) : b ∈ l.take (i + 1) ↔ b ∈ l.take i ∨ b = c := by
 rw [List.take_add_one, h]
 simp
theorem rsign_loop (b : UInt8) {Q : LExit → AFr → Heap → Prop} {fr : AFr} (h0 : fr 0 = .p (.int .u8 b.toNat)) (h3 : fr 3 = .p (.str signs)) (h4 : fr 4 = .p (.int .i64 0))
  (hn : ∀ fr, b ∉ signs → Q .normal fr []) (hr : ∀ fr, b ∈ signs → fr 2 = .p (.bool true) → Q .ret fr []) : vc Td lf65_B0 Q fr [] := by
 have hl : signs.length = 17 := rfl
 simp only [lf65_B0, vc_block]
 refine loop_ind (fun fr H => ∃ i : Nat, H = [] ∧ i ≤ 17 ∧ fr 0 = .p (.int .u8 b.toNat) ∧ fr 3 = .p (.str signs) ∧ fr 4 = .p (.int .i64 i) ∧ b ∉ signs.take i) (fun fr _ => 17 - ivar (fr 4)) ⟨0, rfl, by omega, h0, h3, h4, by simp⟩ ?_
 rintro fr H ⟨i, rfl, hi, h0, h3, h4, hj⟩
 by_cases h : (i : Int) < 17
 ·have hs : signs[i]? = some (signs[i]'(by omega)) := List.getElem?_eq_getElem _
  generalize signs[i]'(by omega) = c at hs
  by_cases hc : c = b
  ·subst hc
   have hm : c ∈ signs := List.mem_of_getElem? hs
   simp [h0, h3, h4, hl, h, hs]
   exact hr _ hm (by simp)
  ·have hj' : b ∉ signs.take (i + 1) := by rw [mem_take_succ hs]; simp [hj, Ne.symm hc]
   have hc' : (c == b) = false := by simpa using hc
   simp [h0, h3, h4, hl, h, hs, u8_beq, hc', wrap_succ (i := i) (by omega), ivar, hj']
   refine ⟨⟨i + 1, by omega, by simp, hj'⟩, ?_⟩
   omega
 ·have : i = 17 := by omega
  subst this
  have hm : b ∉ signs := by simpa [signs] using hj
  simp [h3, h4, hl]
  exact hn _ hm
theorem rsign_ok : FnOk Tryz.prog base 65 (pureS (sByte isSign)) := by
 refine byte_of_vc Td_ok low65 (by simp [lf65]) fun b => ?_
 have fin : isSign b = signs.contains b → ∀ fr : AFr, fr 0 = .p (.int .u8 b.toNat) → fr 3 = .p (.str signs) → fr 4 = .p (.int .i64 0) → vc Td lf65_B0 (seqQ Td (.seq (.region [⟨(some 2), none, .mov (.cst (.p (.bool false)))⟩]) .ret) (endQ Td [LRes.slot 2] (.bool (isSign b)))) fr [] := by
  intro e fr h0 h3 h4
  rw [e]
  refine rsign_loop b h0 h3 h4 (fun fr hm => ?_) (fun fr hm h2 => ?_)
  ·simp [hm]
  ·simp [hm, h2]
 cases hd : isDigit b with
 | true => simp [lf65, Td, sByte_b8, hd, isSign]
 | false =>
  by_cases h1 : (97 : Int) ≤ b.toNat
  ·by_cases h2 : (b.toNat : Int) ≤ 122
   ·simp [lf65, Td, sByte_b8, hd, h1, h2, isSign]
   ·have h4 : ¬ (b.toNat : Int) ≤ 90 := by omega
    have h3 : (65 : Int) ≤ b.toNat := by omega
    have := fin (by simp [isSign, hd, h1, h2, h3, h4])
    simp [lf65, Td, sByte_b8, hd, h1, h2, h3, h4]
    exact this _ (by simp) (by simp [signs]) (by simp)
  ·by_cases h3 : (65 : Int) ≤ b.toNat
   ·by_cases h4 : (b.toNat : Int) ≤ 90
    ·simp [lf65, Td, sByte_b8, hd, h1, h3, h4, isSign]
    ·have := fin (by simp [isSign, hd, h1, h3, h4])
     simp [lf65, Td, sByte_b8, hd, h1, h3, h4]
     exact this _ (by simp) (by simp [signs]) (by simp)
   ·have := fin (by simp [isSign, hd, h1, h3])
    simp [lf65, Td, sByte_b8, hd, h1, h3]
    exact this _ (by simp) (by simp [signs]) (by simp)
end Go.Proofs.YtcbagnlidecmkaaGreatDoor

/-
 lex: Plain.
-/
namespace Go.Proofs.YtcbagnlidecmkaaGreatDoor
open Go Go.Abs Go.Lex
variable {base : Prot}
set_option maxRecDepth 20000
attribute [local simp] pureS touchV freezeL fuel shiftV
def Te : Tab := (Tab.none.with 100 (pureS (sByte isSign))).with 101 (pureS (sByte isDigit))
theorem Te_ok : TabOk Tryz.prog base Te := Tab.with_ok (Tab.with_ok Tab.none_ok sign_ok) digit_ok
theorem Te_mu (f : FuncId) (a : List AVal) (H : Heap) : Te.mu f a H = none := (rfl)
theorem Te_26 : Te.fn 100 = pureS (sByte isSign) := (rfl)
theorem Te_27 : Te.fn 101 = pureS (sByte isDigit) := (rfl)
attribute [local simp] Te_mu Te_26 Te_27
theorem all_take_succ {α : Type} {p : α → Bool} {l : List α} {i : Nat} {c : α} (h : l[i]? = some c) : (l.take (i + 1)).all p = ((l.take i).all p && p c) := by
 rw [List.take_add_one, h]
 simp
theorem plain_loop {s : List UInt8} (hlen : s.length ≤ maxLen) {Q : LExit → AFr → Heap → Prop} {fr : AFr} (h0 : fr 0 = .p (.str s)) (h5 : fr 5 = .p (.int .i64 s.length)) (h6 : fr 6 = .p (.int .i64 0))
  (hn : ∀ fr, s.all isSign = true → fr 0 = .p (.str s) → Q .normal fr []) (hr : ∀ fr, s.all isSign = false → fr 2 = .p (.bool false) → Q .ret fr []) : vc Te lf87_B0 Q fr [] := by
 unfold maxLen at hlen
 simp only [lf87_B0, vc_block]
 refine loop_ind (fun fr H => ∃ i : Nat, H = [] ∧ i ≤ s.length ∧ fr 0 = .p (.str s) ∧ fr 5 = .p (.int .i64 s.length) ∧ fr 6 = .p (.int .i64 i) ∧ (s.take i).all isSign = true) (fun fr _ => s.length - ivar (fr 6)) ⟨0, rfl, by omega, h0, h5, h6, by simp⟩ ?_
 rintro fr H ⟨i, rfl, hi, h0, h5, h6, hj⟩
 by_cases h : i < s.length
 ·have hs : s[i]? = some s[i] := List.getElem?_eq_getElem _
  cases hc : isSign s[i] with
  | false =>
   have ha : s.all isSign = false := by
    rw [List.all_eq_false]
    exact ⟨s[i], List.mem_of_getElem? hs, by simp [hc]⟩
   simp [h0, h5, h6, h, sByte_b8, hc]
   exact hr _ ha (by simp)
  | true =>
   have hj' : (s.take (i + 1)).all isSign = true := by rw [all_take_succ hs, hj, hc]; rfl
   simp [h0, h5, h6, h, sByte_b8, hc, wrap_succ (i := i) (by omega), ivar, -List.all_eq_true]
   exact ⟨⟨i + 1, by omega, by simp, hj'⟩, by omega⟩
 ·have : i = s.length := by omega
  subst this
  simp [h5, h6]
  exact hn _ (by simpa using hj) h0
def sPlain : List PVal → Option PVal
 | [.str s] => some (.bool (isPlain s))
 | _ => none
theorem plain_ok : FnOk Tryz.prog base 87 (pureS sPlain) := by
 refine pure_of_vc hmix Te_ok globNone low87 fun args x hs hf => ?_
 unfold sPlain at hs
 split at hs
 case h_2 => cases hs
 rename_i s
 cases hs
 have hlen := (hf (.str s) (by simp)).str
 refine ⟨by simp [lf87], ?_⟩
 simp [lf87]
 refine plain_loop hlen (by simp) (by simp) (by simp) (fun fr ha h0 => ?_) (fun fr ha h2 => ?_)
 ·cases s with
  | nil => simp [h0, isPlain, binS]
  | cons b s =>
   simp only [isPlain, ha, Bool.true_and]
   simp [h0, binS, sByte_b8]
 ·simp [h2, isPlain, ha]
end Go.Proofs.YtcbagnlidecmkaaGreatDoor

/-
 lex: the reference's Plain and prints.
-/
namespace Go.Proofs.YtcbagnlidecmkaaGreatDoor
open Go Go.Abs Go.Lex
variable {base : Prot}
set_option maxRecDepth 20000
attribute [local simp] pureS touchV freezeL fuel shiftV
def Tf : Tab := ((Tab.none.with 65 (pureS (sByte isSign))).with 66 (pureS (sByte isDigit))).with 42 (pureS (sByte isBlank))
theorem Tf_ok : TabOk Tryz.prog base Tf := Tab.with_ok (Tab.with_ok (Tab.with_ok Tab.none_ok rsign_ok) rdigit_ok) rblank_ok
theorem Tf_mu (f : FuncId) (a : List AVal) (H : Heap) : Tf.mu f a H = none := (rfl)
theorem Tf_28 : Tf.fn 65 = pureS (sByte isSign) := (rfl)
theorem Tf_29 : Tf.fn 66 = pureS (sByte isDigit) := (rfl)
theorem Tf_20 : Tf.fn 42 = pureS (sByte isBlank) := (rfl)
attribute [local simp] Tf_mu Tf_28 Tf_29 Tf_20
theorem rplain_loop {s : List UInt8} (hlen : s.length ≤ maxLen) {Q : LExit → AFr → Heap → Prop} {fr : AFr} (h0 : fr 0 = .p (.str s)) (h3 : fr 3 = .p (.int .i64 0))
  (hn : ∀ fr, s.all isSign = true → fr 0 = .p (.str s) → Q .normal fr []) (hr : ∀ fr, s.all isSign = false → fr 2 = .p (.bool false) → Q .ret fr []) : vc Tf lf79_B0 Q fr [] := by
 unfold maxLen at hlen
 simp only [lf79_B0, vc_block]
 refine loop_ind (fun fr H => ∃ i : Nat, H = [] ∧ i ≤ s.length ∧ fr 0 = .p (.str s) ∧ fr 3 = .p (.int .i64 i) ∧ (s.take i).all isSign = true) (fun fr _ => s.length - ivar (fr 3)) ⟨0, rfl, by omega, h0, h3, by simp⟩ ?_
 rintro fr H ⟨i, rfl, hi, h0, h3, hj⟩
 by_cases h : i < s.length
 ·have hs : s[i]? = some s[i] := List.getElem?_eq_getElem _
  cases hc : isSign s[i] with
  | false =>
   have ha : s.all isSign = false := by
    rw [List.all_eq_false]
    exact ⟨s[i], List.mem_of_getElem? hs, by simp [hc]⟩
   simp [h0, h3, h, sByte_b8, hc]
   exact hr _ ha (by simp)
  | true =>
   have hj' : (s.take (i + 1)).all isSign = true := by rw [all_take_succ hs, hj, hc]; rfl
   simp [h0, h3, h, sByte_b8, hc, wrap_succ (i := i) (by omega), ivar, -List.all_eq_true]
   exact ⟨⟨i + 1, by omega, by simp, hj'⟩, by omega⟩
 ·have : i = s.length := by omega
  subst this
  simp [h0, h3]
  exact hn _ (by simpa using hj) h0
theorem rplain_ok : FnOk Tryz.prog base 79 (pureS sPlain) := by
 refine pure_of_vc hmix Tf_ok globNone low79 fun args x hs hf => ?_
 unfold sPlain at hs
 split at hs
 case h_2 => cases hs
 rename_i s
 cases hs
 have hlen := (hf (.str s) (by simp)).str
 refine ⟨by simp [lf79], ?_⟩
 simp [lf79]
 refine rplain_loop hlen (by simp) (by simp) (fun fr ha h0 => ?_) (fun fr ha h2 => ?_)
 ·cases s with
  | nil => simp [h0, isPlain]
  | cons b s =>
   simp only [isPlain, ha, Bool.true_and]
   have hp : (0 : Int) < (s.length : Int) + 1 := by omega
   simp [h0, sByte_b8, hp]
 ·simp [h2, isPlain, ha]
theorem rprints_ok : FnOk Tryz.prog base 64 (pureS (sByte isPrints)) := by
 refine byte_of_vc Tf_ok low64 (by simp [lf64]) fun b => ?_
 by_cases h1 : (33 : Int) ≤ b.toNat
 ·by_cases h2 : (b.toNat : Int) ≤ 126
  ·simp [lf64, h1, h2, isPrints]
  ·by_cases h3 : (128 : Int) ≤ b.toNat <;> simp [lf64, h1, h2, h3, isPrints, sByte_b8]
 ·by_cases h3 : (128 : Int) ≤ b.toNat <;> simp [lf64, h1, h3, isPrints, sByte_b8]
end Go.Proofs.YtcbagnlidecmkaaGreatDoor
