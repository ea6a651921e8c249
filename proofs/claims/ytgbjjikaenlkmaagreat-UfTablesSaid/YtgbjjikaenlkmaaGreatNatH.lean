/-
  What nat.Text computes: the decimal numeral. What nat.Parse computes, for texts of at most 90000 bytes. What a row's claim asks, and what the rows' listed variables give. The lowered code of the reference, each equal to what the program's form lowers to. What the reference's functions of sums, differences, products and the order compute, for at most 100000 limbs. No conditions beyond the lemmas' own hypotheses.
-/
import Derived.Test.YtgbjjikaenlkmaaGreatNatA
import Derived.Test.YtgbjjikaenlkmaaGreatAbsThree
import Derived.Lib.Builder
import Derived.Lib.UnsafeStr
import Derived.RegionTactic
import Derived.WalkKit
import Derived.ProofKit
import Derived.LaidMore
import Derived.OpenShut
import Derived.Stop.Joined
import Derived.SliceStrings
import Derived.Test.YtgbjjikaenlkmaaGreatAbsTwo
import Derived.Test.YtgbjjikaenlkmaaGreatProg
import Derived.KernelRfl
import Derived.Lib.Bytealg
import Derived.Laws.Externs
set_option linter.unusedSimpArgs false
set_option linter.unnecessarySimpa false
set_option linter.unusedVariables false
set_option linter.constructorNameAsVariable false

namespace Go.Proofs.YtgbjjikaenlkmaaGreat
open Go Go.RowKit Go.Abs
variable {base : Prot}
set_option maxRecDepth 20000
attribute [local simp] za zh freezeL fuel zk
end Go.Proofs.YtgbjjikaenlkmaaGreat

namespace Go.Proofs.YtgbjjikaenlkmaaGreat
open Go Go.Abs Go.Limbs
variable {base : Prot}
set_option maxRecDepth 20000
def eqO (a b : Option PVal) : Bool := match a, b with
 | some x, some y => eqP 5 x y
 | _, _ => false
theorem eqO_ok {a b : Option PVal} (h : eqO a b = true) : a = b := by
 unfold eqO at h
 split at h
 ·rw [x6 _ _ _ h]
 ·cases h
end Go.Proofs.YtgbjjikaenlkmaaGreat

namespace Go.Proofs.YtgbjjikaenlkmaaGreat
open Go Go.Abs Go.RowKit
variable {base : Prot}
set_option maxRecDepth 20000
section
attribute [local irreducible] vc
attribute [local simp] za zh freezeL fuel zk
end
end Go.Proofs.YtgbjjikaenlkmaaGreat

namespace Go.Proofs.YtgbjjikaenlkmaaGreat
open Go Go.Abs Go.Limbs
variable {base : Prot}
set_option maxRecDepth 20000
attribute [local irreducible] vc
attribute [local simp] za zh freezeL fuel zk u64
def HasParts (H : zb) (b L : Nat) : Prop := ∃ j ver e, H[0]? = some ⟨1, 0, false, [.own j 0 L ver], 48⟩ ∧ j < b ∧ H[j]? = some e ∧ e.ver = ver
theorem rO {H : zb} {k q : Nat} (h : q ≠ k) : (freeze1 H k)[q]? = H[q]? := by
 unfold freeze1
 split
 ·rw [List.getElem?_set_ne (Ne.symm h)]
 ·rfl
theorem HasParts.freeze {H : zb} {b L k : Nat} (h : HasParts H b L) (hk : b ≤ k) (hb : 0 < b) : HasParts (freeze1 H k) b L := by
 obtain ⟨j, ver, e, h1, h2, h3, h4⟩ := h
 exact ⟨j, ver, e, by rw [rO (by omega)]; exact h1, h2, by rw [rO (by omega)]; exact h3, h4⟩
theorem HasParts.keep {H H' : zb} {b L : Nat} (h : HasParts H b L) (hb : 0 < b) (hk : ∀ q, q < b → H'[q]? = H[q]?) : HasParts H' b L := by
 obtain ⟨j, ver, e, h1, h2, h3, h4⟩ := h
 exact ⟨j, ver, e, by rw [hk 0 hb]; exact h1, h2, by rw [hk j h2]; exact h3, h4⟩
end Go.Proofs.YtgbjjikaenlkmaaGreat

namespace Go.Proofs.YtgbjjikaenlkmaaGreat
open Go Go.Abs Go.Limbs
variable {base : Prot}
set_option maxRecDepth 20000
section
attribute [local irreducible] vc
attribute [local simp] za zh freezeL fuel zk
theorem aD : ∀ l : List PVal, jd (l.map AVal.p) = some l
 | [] => rfl
 | x :: r => by simp [jd, aD r]
end
end Go.Proofs.YtgbjjikaenlkmaaGreat

namespace Go.Proofs.YtgbjjikaenlkmaaGreat
open Go Go.Abs Go.Limbs Go.RowKit
variable {base : Prot}
set_option maxRecDepth 20000
end Go.Proofs.YtgbjjikaenlkmaaGreat

namespace Go.Proofs.YtgbjjikaenlkmaaGreat
open Go Go.Abs Go.Limbs
variable {base : Prot}
set_option maxRecDepth 20000
attribute [local irreducible] vc
attribute [local simp] za zh freezeL fuel zk u64 au
def co : List PVal → Option PVal
 | [.lst xs, .lst ys] => match jz xs, jz ys with | some a, some b => some (.bool (decide (a = b))) | _, _ => none
 | _ => none
theorem yn {a b : List Nat} (ha : Wf a) (hb : Wf b) : co [.lst (a.map u64), .lst (b.map u64)] = some (.bool (decide (a = b))) := by simp only [co, zY ha, zY hb]
theorem sameL_ok : zH Tryz.prog base 62 (za co) := by
 refine zd zE Tab.none_ok ze low62 fun args z hs hf => ?_
 unfold co at hs
 split at hs
 case h_2 => cases hs
 rename_i xs ys
 split at hs
 case h_2 => cases hs
 rename_i a b ha hb
 obtain ⟨rfl, wa⟩ := zI ha
 obtain ⟨rfl, wb⟩ := zI hb
 cases hs
 have hlen := (hf (.lst (a.map u64)) (by simp)).lst.1
 unfold maxLen at hlen
 simp only [List.length_map] at hlen
 refine ⟨by simp [lf62], ?_⟩
 by_cases hl : a.length = b.length
 ·have hl1 : ((a.length : Int) != b.length) = false := by simp [hl]
  simp [lf62, hl1]
  simp only [lf62_B0, zr]
  refine zo (fun fr H => ∃ i : Nat, H = [] ∧ i ≤ a.length ∧ fr 0 = .p (.lst (a.map u64)) ∧ fr 1 = .p (.lst (b.map u64)) ∧ fr 5 = .p (.int .i64 i) ∧ a.take i = b.take i) (fun fr _ => a.length - zA (fr 5)) ⟨0, rfl, by omega, by simp, by simp, by simp, by simp⟩ ?_
  rintro fr H ⟨i, rfl, hi, h0, h1, h5, hj⟩
  by_cases h : i < a.length
  ·obtain ⟨u, hx⟩ : ∃ u, a[i]? = some u := ⟨_, List.getElem?_eq_getElem h⟩
   obtain ⟨v, hy⟩ : ∃ v, b[i]? = some v := ⟨_, List.getElem?_eq_getElem (show i < b.length by omega)⟩
   have hib : i < b.length := by omega
   have hnx := z3 hx
   have hny := z3 hy
   by_cases he : u = v
   ·subst he
    have hj' : a.take (i + 1) = b.take (i + 1) := by rw [List.take_add_one, List.take_add_one, hj, hx, hy]
    simp [h0, h1, h5, h, hib, hnx, hny, zs (i := i) (by omega), zA]
    exact ⟨⟨i + 1, by omega, rfl, hj'⟩, by omega⟩
   ·have hne : ¬ a = b := by
     rintro rfl
     rw [hx] at hy
     exact he (by cases hy; rfl)
    have hb : ((u : Int) != (v : Int)) = true := by simp; omega
    have hb2 : ((u : Int) == (v : Int)) = false := beq_false_of_ne (by omega)
    simp [h0, h1, h5, h, hib, hnx, hny, hb, hne]
  ·have hil : i = a.length := by omega
   subst hil
   have hxy : a = b := by
    rw [List.take_of_length_le (Nat.le_refl _), List.take_of_length_le (by omega)] at hj
    exact hj
   simp [h0, h5, hxy]
 ·have hl1 : ((a.length : Int) != b.length) = true := by simp; omega
  have hne : ¬ a = b := fun e => hl (by rw [e])
  simp [lf62, hl1, hne]
def Tsm : Tab := Tab.none.with 62 (za co)
theorem Tsm_ok : TabOk Tryz.prog base Tsm := Tab.with_ok Tab.none_ok sameL_ok
theorem Tsm_mu (f : FuncId) (a : List AVal) (H : zb) : Tsm.mu f a H = none := (rfl)
theorem Tsm_fn : Tsm.fn 62 = za co := (rfl)
end Go.Proofs.YtgbjjikaenlkmaaGreat

namespace Go.Abs
open Go.ChangeShapes Go.WideShapes Go.ChangeAt Go.WideMaps Go.WideElems Go.RowKit Go.Limbs
section
variable {H : Type} {enc : TypeId × Value → H} {P : Program}
theorem iH {f : Func} {s : ChangeSpec} {apart fresh handsOn again : Bool} {W W' : World} {args : Array Value} {v : Value} {ds gs : List (DataW H)} {before pa pv : List MemPlace}
  (hW : DataW.Whole enc P f.params.toList s.vars apart W args.toList ds gs before)
  (hres : ∀ (b : Nat) (sp : Nat → Bool) (hd : Bool), DataW.TrodAll enc P W' b sp hd f.resultTypes.toList (v.resultList f.resultTypes.size) (s.fn H (ds ++ gs)).results [])
  (hargs : ∀ sp : Nat → Bool, (∀ p ∈ before, sp p.block = true) → DataW.TrodAll enc P W' 0 sp true f.params.toList args.toList (s.fn H (ds ++ gs)).args pa)
  (hvars : ∀ sp : Nat → Bool, (∀ p ∈ before, sp p.block = true) → DataW.TrodVars enc P W' sp s.vars (s.fn H (ds ++ gs)).vars pv)
  (hps : before = pa ++ pv) (hb : RowKit.Below W.heap.size W W')
  (hok : ∀ (j : Nat) (t : TypeId) (r : Value), f.resultTypes[j]? = some t → (v.resultList f.resultTypes.size)[j]? = some r → Value.okWide P W' .any 0 t r) :
  s.post enc P f apart fresh handsOn again W args v W' := by
 have hlt : ∀ p ∈ before, p.block < W.heap.size := fun p hp => hW.lt p hp
 have hold : ∀ p ∈ before, (fun b => decide (b < W.heap.size)) p.block = true := fun p hp => by simpa using hlt p hp
 refine ⟨ds, gs, before, [], pa, pv, hW, hres _ _ _, hargs _ hold, hvars _ hold, World.keptBut_mono (fun p hp => ⟨hp, ?_⟩) (hb.frame (· ∈ before)), fun _ => ?_⟩
 ·rw [hps, List.mem_append] at hp
  exact Or.inr hp
 ·obtain ⟨_, _, _, _, _, hz, hn⟩ := hW
  refine ⟨hok, _, _, ([] ++ pa) ++ pv, ⟨[] ++ pa, pv, trodAll_append (hargs _ (fun _ _ => rfl)) (hres _ _ _), hvars _ (fun _ _ => rfl), rfl, ?_, ?_⟩, ?_⟩
  ·intro b off hp
   have hin : MemPlace.cell b off ∈ before := by rw [hps]; simpa using hp
   rw [hb.frozen (hlt _ hin)]
   exact hz b off hin
  ·intro ha
   have := hn ha
   rw [hps] at this
   simpa using this
  ·intro p hp _
   rw [hps]
   simpa using hp
end
section
variable {H : Type} {enc : TypeId × Value → H} {P : Program} {W : World} {sp : Nat → Bool}
end
end Go.Abs

namespace Go.Proofs.YtgbjjikaenlkmaaGreat
open Go Go.Abs
def lf102 : LFunc := ⟨20,[.slot 2],.seq (.region [Oa 2 (.mov Kg)]) (.seq (.region [Om 3 0,Oa 4 (.len (Tm 3)),Oa 5 (.bin .leq (Tm 4) (Kz 64)),Om 6 5,Oj 7 6 0,Oc 8 6 (.len (Tm 7)),Oc 9 6 (.bin .eql (Tm 8) (Kz 0)),Oj 10 6 9,Oo 11 10 0,Oo 12 10 0,Od 13 10 (.len (Tm 12)),Od 14 10 (.bin .sub (Tm 13) (Kz 1)),Od 15 10 (.iadr 1 (Tm 11) (Tm 14)),Od 16 10 (.load 1 false (Tm 15)),Od 17 10 (.bin .neq (Tm 16) (.cst (.p (.int .u64 0)))),Oc 18 6 (.pick (Tm 10) Kt (Tm 17)),Ot 19 6 18,Om 2 19]) (.ret))⟩
theorem low102 : zi Tryz.prog gl0 102 = some lf102 := Go.Abs.lowF (by kernel_rfl)
def lf132 : LFunc := ⟨18,[.slot 2],.seq (.region [Oa 2 (.mov (Kz 0))]) (.seq (.seq (.region [Om 3 0,Oa 4 (.len (Tm 3)),Oa 5 (.bin .eql (Tm 4) (Kz 0))]) (.cond (Tm 5) (.seq (.region [Oa 2 (.mov (Kz 0))]) (.ret)) (.skip))) (.seq (.region [Om 6 0,Oa 7 (.len (Tm 6)),Oa 8 (.bin .sub (Tm 7) (Kz 1)),Oa 9 (.bin .mul (Kz 64) (Tm 8)),Om 10 0,Om 11 0,Oa 12 (.len (Tm 11)),Oa 13 (.bin .sub (Tm 12) (Kz 1)),Oa 14 (.iadr 1 (Tm 10) (Tm 13)),Oq 15 1 false 14,Oa 16 (.call 100 [Tm 15]),Oa 17 (.bin .add (Tm 9) (Tm 16)),Om 2 17]) (.ret)))⟩
theorem low132 : zi Tryz.prog gl0 132 = some lf132 := Go.Abs.lowF (by kernel_rfl)
def lf66_B0 : LCode := .block 0 (.loop (.seq (.seq (.region [Om 6 3,Oa 7 (.bin .gtr (Tm 6) (Kz 0)),Om 8 7,Oj 9 8 0,Oj 10 8 3,Oc 11 8 (.bin .sub (Tm 10) (Kz 1)),Oc 12 8 (.iadr 1 (Tm 9) (Tm 11)),Oc 13 8 (.load 1 false (Tm 12)),Oc 14 8 (.bin .eql (Tm 13) (.cst (.p (.int .u64 0)))),Ot 15 8 14]) (.cond (Tm 15) (.skip) (.exit 0))) (.block 1 (.region [Om 16 3,Oa 17 (.bin .sub (Tm 16) (Kz 1)),Om 3 17]))))
def lf66 : LFunc := ⟨23,[.slot 2],.seq (.region [Oa 2 (.mov (.cst (.tight [])))]) (.seq (.region [Om 4 0,Oa 5 (.len (Tm 4)),Om 3 5]) (.seq (lf66_B0) (.seq (.region [Oa 18 (.buildSl 1 147 (.p (.int .u64 0)) 0 []),Om 19 0,Om 20 3,Oa 21 (.slSl 1 (Tm 19) none (some (Tm 20)) none),Oa 22 (.app 1 8 147 (Tm 18) (Tm 21)),Om 2 22]) (.ret))))⟩
theorem low66 : zi Tryz.prog gl0 66 = some lf66 := Go.Abs.lowF (by kernel_rfl)
def lf120_B0 : LCode := .block 0 (.loop (.seq (.seq (.region [Om 19 5,Oa 20 (.bin .geq (Tm 19) (Kz 0))]) (.cond (Tm 20) (.skip) (.exit 0))) (.seq (.block 1 (.seq (.seq (.regionD [Om 23 0,Om 24 5,Oa 25 (.iadr 1 (Tm 23) (Tm 24)),Oq 26 1 false 25,Om 27 1,Om 28 5,Oa 29 (.iadr 1 (Tm 27) (Tm 28)),Oq 30 1 false 29,Oa 31 (.bin .lss (Tm 26) (Tm 30))]) (.cond (Tm 31) (.seq (.region [Oa 4 (.mov (Kz (-1)))]) (.ret)) (.skip))) (.seq (.regionD [Om 32 0,Om 33 5,Oa 34 (.iadr 1 (Tm 32) (Tm 33)),Oq 35 1 false 34,Om 36 1,Om 37 5,Oa 38 (.iadr 1 (Tm 36) (Tm 37)),Oq 39 1 false 38,Oa 40 (.bin .gtr (Tm 35) (Tm 39))]) (.cond (Tm 40) (.seq (.region [Oa 4 (.mov (Kz 1))]) (.ret)) (.skip))))) (.region [Om 21 5,Oa 22 (.bin .sub (Tm 21) (Kz 1)),Om 5 22]))))
def lf120 : LFunc := ⟨41,[.slot 4],.seq (.region [Oa 4 (.mov (Kz 0))]) (.seq (.seq (.region [Om 6 0,Oa 7 (.len (Tm 6)),Om 8 1,Oa 9 (.len (Tm 8)),Oa 10 (.bin .neq (Tm 7) (Tm 9))]) (.cond (Tm 10) (.seq (.seq (.region [Om 11 0,Oa 12 (.len (Tm 11)),Om 13 1,Oa 14 (.len (Tm 13)),Oa 15 (.bin .lss (Tm 12) (Tm 14))]) (.cond (Tm 15) (.seq (.region [Oa 4 (.mov (Kz (-1)))]) (.ret)) (.skip))) (.seq (.region [Oa 4 (.mov (Kz 1))]) (.ret))) (.skip))) (.seq (.seq (.region [Om 16 0,Oa 17 (.len (Tm 16)),Oa 18 (.bin .sub (Tm 17) (Kz 1)),Om 5 18]) (lf120_B0)) (.seq (.region [Oa 4 (.mov (Kz 0))]) (.ret))))⟩
theorem low120 : zi Tryz.prog gl0 120 = some lf120 := Go.Abs.lowF (by kernel_rfl)
def lf134_B0 : LCode := .block 0 (.loop (.seq (.seq (.region [Om 11 7,Om 12 0,Oa 13 (.len (Tm 12)),Oa 14 (.bin .lss (Tm 11) (Tm 13))]) (.cond (Tm 14) (.skip) (.exit 0))) (.seq (.block 1 (.seq (.region [Oa 8 (.mov (.cst (.p (.int .u64 0))))]) (.seq (.seq (.region [Om 17 7,Om 18 1,Oa 19 (.len (Tm 18)),Oa 20 (.bin .lss (Tm 17) (Tm 19))]) (.cond (Tm 20) (.region [Om 21 1,Om 22 7,Oa 23 (.iadr 1 (Tm 21) (Tm 22)),Oq 24 1 false 23,Om 8 24]) (.skip))) (.seq (.region [Om 26 0,Om 27 7,Oa 28 (.iadr 1 (Tm 26) (Tm 27)),Oq 29 1 false 28,Om 30 8,Om 31 6,Oa 32 (.calle 148 [Tm 29,Tm 30,Tm 31]),Om 25 32,Ox 33 25 0,Ox 34 25 1,Om 9 33,Om 10 34]) (.seq (.region [Om 35 5,Om 36 9,Oa 37 (.buildSl 1 147 (.p (.int .u64 0)) 1 [(0,(Tm 36))]),Oa 38 (.app 1 8 147 (Tm 35) (Tm 37)),Om 5 38]) (.region [Om 39 10,Om 6 39])))))) (.region [Om 15 7,Oa 16 (.bin .add (Tm 15) (Kz 1)),Om 7 16]))))
def lf134 : LFunc := ⟨42,[.slot 4],.seq (.region [Oa 4 (.mov (.cst (.tight [])))]) (.seq (.region [Oa 5 (.mov (.cst (.tight [])))]) (.seq (.region [Oa 6 (.mov (.cst (.p (.int .u64 0))))]) (.seq (.seq (.region [Oa 7 (.mov (Kz 0))]) (lf134_B0)) (.seq (.region [Om 40 5,Oa 41 (.call 66 [Tm 40]),Om 4 41]) (.ret)))))⟩
theorem low134 : zi Tryz.prog gl0 134 = some lf134 := Go.Abs.lowF (by kernel_rfl)
def lf104_B0 : LCode := .block 0 (.loop (.seq (.seq (.region [Om 24 8,Oa 25 (.bin .geq (Tm 24) (Kz 0))]) (.cond (Tm 25) (.skip) (.exit 0))) (.seq (.block 1 (.seq (.region [Om 28 1,Om 29 8,Oa 30 (.call 133 [Tm 28,Tm 29]),Om 9 30]) (.seq (.region [Om 31 7,Om 32 9,Oa 33 (.call 120 [Tm 31,Tm 32]),Oa 34 (.bin .geq (Tm 33) (Kz 0))]) (.cond (Tm 34) (.seq (.region [Om 35 7,Om 36 9,Oa 37 (.call 134 [Tm 35,Tm 36]),Om 7 37]) (.region [Om 38 6,Om 39 8,Oa 40 (.bin .quo (Tm 39) (Kz 64)),Om 41 6,Om 42 8,Oa 43 (.bin .quo (Tm 42) (Kz 64)),Oa 44 (.iadr 1 (Tm 41) (Tm 43)),Oq 45 1 false 44,Om 46 8,Oa 47 (.bin .rem (Tm 46) (Kz 64)),Oa 48 (.conv (.toInt .u64) (Tm 47)),Oa 49 (.bin .shl (.cst (.p (.int .u64 1))) (Tm 48)),Oa 50 (.bin .or (Tm 45) (Tm 49)),Oa 51 (.iadr 1 (Tm 38) (Tm 40)),Oy 1 51 50])) (.skip))))) (.region [Om 26 8,Oa 27 (.bin .sub (Tm 26) (Kz 1)),Om 8 27]))))
def lf104 : LFunc := ⟨55,[.slot 4,.slot 5],.seq (.region [Oa 4 (.mov (.cst (.tight []))),Oa 5 (.mov (.cst (.tight [])))]) (.seq (.seq (.region [Om 10 0,Om 11 1,Oa 12 (.call 120 [Tm 10,Tm 11]),Oa 13 (.bin .lss (Tm 12) (Kz 0))]) (.cond (Tm 13) (.seq (.region [Om 14 0,Oa 4 (.mov (.cst (.tight []))),Om 5 14]) (.ret)) (.skip))) (.seq (.region [Om 15 0,Oa 16 (.len (Tm 15)),Oa 17 (.mksl 1 8 147 (.p (.int .u64 0)) (Tm 16) (Tm 16)),Om 6 17]) (.seq (.region [Om 18 0,Om 7 18]) (.seq (.seq (.region [Om 19 0,Oa 20 (.call 132 [Tm 19]),Om 21 1,Oa 22 (.call 132 [Tm 21]),Oa 23 (.bin .sub (Tm 20) (Tm 22)),Om 8 23]) (lf104_B0)) (.seq (.region [Om 52 6,Oa 53 (.call 66 [Tm 52]),Om 54 7,Om 4 53,Om 5 54]) (.ret))))))⟩
theorem low104 : zi Tryz.prog gl0 104 = some lf104 := Go.Abs.lowF (by kernel_rfl)
def lf103_B0 : LCode := .block 0 (.loop (.seq (.seq (.region [Om 7 1,Oa 8 (.len (Tm 7)),Oa 9 (.bin .gtr (Tm 8) (Kz 0))]) (.cond (Tm 9) (.skip) (.exit 0))) (.block 1 (.seq (.region [Om 11 0,Om 12 1,Oa 13 (.call 104 [Tm 11,Tm 12]),Om 10 13,Ox 14 10 0,Ox 15 10 1,Om 5 14,Om 6 15]) (.region [Om 16 1,Om 17 6,Om 0 16,Om 1 17])))))
def lf103 : LFunc := ⟨19,[.slot 4],.seq (.region [Oa 4 (.mov (.cst (.tight [])))]) (.seq (lf103_B0) (.seq (.region [Om 18 0,Om 4 18]) (.ret)))⟩
theorem low103 : zi Tryz.prog gl0 103 = some lf103 := Go.Abs.lowF (by kernel_rfl)
def lf133_B0 : LCode := .block 0 (.loop (.seq (.seq (.region [Om 31 8,Om 32 6,Oa 33 (.len (Tm 32)),Oa 34 (.bin .lss (Tm 31) (Tm 33)),Om 35 34,Oj 36 35 7,Oc 37 35 (.bin .gtr (Tm 36) (.cst (.p (.int .u64 0)))),Ot 38 35 37]) (.cond (Tm 38) (.skip) (.exit 0))) (.seq (.block 1 (.seq (.region [Om 41 6,Om 42 8,Om 43 6,Om 44 8,Oa 45 (.iadr 1 (Tm 43) (Tm 44)),Oq 46 1 false 45,Om 47 7,Oa 48 (.bin .shr (Tm 46) (Tm 47)),Oa 49 (.iadr 1 (Tm 41) (Tm 42)),Oy 1 49 48]) (.seq (.region [Om 50 8,Oa 51 (.bin .add (Tm 50) (Kz 1)),Om 52 6,Oa 53 (.len (Tm 52)),Oa 54 (.bin .lss (Tm 51) (Tm 53))]) (.cond (Tm 54) (.regionW [(Om 55 6,.f),(Om 56 8,.f),(Om 57 6,.f),(Om 58 8,.f),(Oa 59 (.iadr 1 (Tm 57) (Tm 58)),.f),(Oq 60 1 false 59,.f),(Om 61 6,.f),(Om 62 8,.f),(Oa 63 (.bin .add (Tm 62) (Kz 1)),.f),(Oa 64 (.iadr 1 (Tm 61) (Tm 63)),.f),(Oq 65 1 false 64,.f),(Om 66 7,.f),(Oa 67 (.bin .sub (.cst (.p (.int .u64 64))) (Tm 66)),.f),(Oa 68 (.bin .shl (Tm 65) (Tm 67)),.f),(Oa 69 (.bin .or (Tm 60) (Tm 68)),.f),(Oa 70 (.iadr 1 (Tm 55) (Tm 56)),.f),(Oy 1 70 69,.f)]) (.skip))))) (.region [Om 39 8,Oa 40 (.bin .add (Tm 39) (Kz 1)),Om 8 40]))))
def lf133_B1 : LCode := .block 2 (.loop (.seq (.seq (.region [Om 79 12,Om 80 0,Oa 81 (.len (Tm 80)),Oa 82 (.bin .lss (Tm 79) (Tm 81))]) (.cond (Tm 82) (.skip) (.exit 2))) (.seq (.block 3 (.seq (.region [Om 85 9,Om 86 0,Om 87 12,Oa 88 (.iadr 1 (Tm 86) (Tm 87)),Oq 89 1 false 88,Om 90 10,Oa 91 (.bin .shl (Tm 89) (Tm 90)),Om 92 11,Oa 93 (.bin .or (Tm 91) (Tm 92)),Oa 94 (.buildSl 1 147 (.p (.int .u64 0)) 1 [(0,(Tm 93))]),Oa 95 (.app 1 8 147 (Tm 85) (Tm 94)),Om 9 95]) (.seq (.region [Oa 11 (.mov (.cst (.p (.int .u64 0))))]) (.seq (.region [Om 96 10,Oa 97 (.bin .gtr (Tm 96) (.cst (.p (.int .u64 0))))]) (.cond (Tm 97) (.region [Om 98 0,Om 99 12,Oa 100 (.iadr 1 (Tm 98) (Tm 99)),Oq 101 1 false 100,Om 102 10,Oa 103 (.bin .sub (.cst (.p (.int .u64 64))) (Tm 102)),Oa 104 (.bin .shr (Tm 101) (Tm 103)),Om 11 104]) (.skip)))))) (.region [Om 83 12,Oa 84 (.bin .add (Tm 83) (Kz 1)),Om 12 84]))))
def lf133 : LFunc := ⟨110,[.slot 4],.seq (.region [Oa 4 (.mov (.cst (.tight [])))]) (.seq (.seq (.region [Om 13 1,Oa 14 (.bin .lss (Tm 13) (Kz 0))]) (.cond (Tm 14) (.seq (.region [Om 15 1,Oa 16 (.un .neg (Tm 15)),Oa 17 (.bin .quo (Tm 16) (Kz 64)),Om 5 17]) (.seq (.seq (.region [Om 18 5,Om 19 0,Oa 20 (.len (Tm 19)),Oa 21 (.bin .geq (Tm 18) (Tm 20))]) (.cond (Tm 21) (.seq (.region [Oa 4 (.mov (.cst (.tight [])))]) (.ret)) (.skip))) (.seq (.region [Oa 22 (.buildSl 1 147 (.p (.int .u64 0)) 0 []),Om 23 0,Om 24 5,Oa 25 (.slSl 1 (Tm 23) (some (Tm 24)) none none),Oa 26 (.app 1 8 147 (Tm 22) (Tm 25)),Om 6 26]) (.seq (.region [Om 27 1,Oa 28 (.un .neg (Tm 27)),Oa 29 (.bin .rem (Tm 28) (Kz 64)),Oa 30 (.conv (.toInt .u64) (Tm 29)),Om 7 30]) (.seq (.seq (.region [Oa 8 (.mov (Kz 0))]) (lf133_B0)) (.seq (.region [Om 71 6,Oa 72 (.call 66 [Tm 71]),Om 4 72]) (.ret))))))) (.skip))) (.seq (.region [Om 73 1,Oa 74 (.bin .quo (Tm 73) (Kz 64)),Oa 75 (.mksl 1 8 147 (.p (.int .u64 0)) (Tm 74) (Tm 74)),Om 9 75]) (.seq (.region [Om 76 1,Oa 77 (.bin .rem (Tm 76) (Kz 64)),Oa 78 (.conv (.toInt .u64) (Tm 77)),Om 10 78]) (.seq (.region [Oa 11 (.mov (.cst (.p (.int .u64 0))))]) (.seq (.seq (.region [Oa 12 (.mov (Kz 0))]) (lf133_B1)) (.seq (.region [Om 105 9,Om 106 11,Oa 107 (.buildSl 1 147 (.p (.int .u64 0)) 1 [(0,(Tm 106))]),Oa 108 (.app 1 8 147 (Tm 105) (Tm 107)),Oa 109 (.call 66 [Tm 108]),Om 4 109]) (.ret)))))))⟩
theorem low133 : zi Tryz.prog gl0 133 = some lf133 := Go.Abs.lowF (by kernel_rfl)
end Go.Proofs.YtgbjjikaenlkmaaGreat

namespace Go.Proofs.YtgbjjikaenlkmaaGreat
open Go Go.Abs Go.Limbs
variable {base : Prot}
set_option maxRecDepth 20000
attribute [local irreducible] vc
attribute [local simp] za zh freezeL fuel zk u64 au
theorem au_comp : AVal.p ∘ u64 = au := rfl
theorem aw (ys : List Nat) : (ys.map au).all (fun y => y.cells.length == 1 && y.cells.all AVal.isCell) = true := by
 rw [List.all_eq_true]
 intro x hx
 obtain ⟨y, _, rfl⟩ := List.mem_map.1 hx
 rfl
theorem fu {H : zb} {k ver : Nat} {out ys : List Nat} (hk : H[k]? = some (zG ver out)) (hn : out.length + ys.length ≤ 1000000) :
  qC 1 8 147 (.own k 0 out.length ver) (ys.map au) H = some (.own k 0 (out.length + ys.length) (ver + 1), H.set k (zG (ver + 1) (out ++ ys))) := by
 have hm : maxLen = 9223372036854775807 := rfl
 unfold qC
 rw [if_pos ⟨aw ys, by decide⟩]
 simp only
 rw [hk]
 simp only [zG]
 rw [if_pos (by simp; omega)]
 simp
theorem app_nil {H : zb} {ys : List Nat} (hn : ys.length ≤ 1000000) :
  qC 1 8 147 (.tight []) (ys.map au) H = some (.own H.length 0 ys.length 0, H ++ [zG 0 ys]) := by
 have hm : maxLen = 9223372036854775807 := rfl
 unfold qC
 rw [if_pos ⟨aw ys, by decide⟩]
 simp only
 rw [if_pos (by simp; omega)]
 simp [zG]
theorem bk : zH Tryz.prog base 66 (za qM) := by
 refine zd zE Tab.none_ok ze low66 fun args z hs hf => ?_
 unfold qM at hs
 split at hs
 case h_2 => cases hs
 rename_i es
 split at hs
 case h_2 => cases hs
 rename_i l hd
 split at hs
 case isFalse => cases hs
 rename_i hl
 obtain ⟨rfl, hw⟩ := zI hd
 cases hs
 refine ⟨by simp [lf66], ?_⟩
 simp [lf66]
 simp only [lf66_B0, zr]
 refine zo (fun fr H => ∃ n : Nat, H = [] ∧ n ≤ l.length ∧ val (l.take n) = val l ∧ fr 0 = .p (.lst (l.map u64)) ∧ fr 3 = .p (.int .i64 n)) (fun fr _ => zA (fr 3)) ⟨l.length, rfl, by omega, by simp, by simp, by simp⟩ ?_
 rintro fr H ⟨n, rfl, hn, hv, h0, h3⟩
 have hcap := wK n (by omega)
 have hnI : (n : Int) ≤ l.length := by omega
 by_cases h : 0 < n
 ·have hI : (0 : Int) < n := by omega
  obtain ⟨x, hx⟩ : ∃ x, l[n - 1]? = some x := ⟨_, List.getElem?_eq_getElem (by omega)⟩
  obtain ⟨n1, hn1⟩ : ∃ t, t = n - 1 := ⟨_, rfl⟩
  rw [← hn1] at hx
  have hw1 : IntKind.i64.wrap ((n : Int) - 1) = (n1 : Int) := by rw [IntWalk.i64_in _ (by omega)]; omega
  have hlt : n1 < l.length := by omega
  by_cases hz : x = 0
  ·subst hz
   simp [h0, h3, h, hw1, hx, zA]
   refine ⟨⟨n1, by omega, ?_, rfl⟩, by omega⟩
   have := sU (a := l) (n := n1) hx
   rw [show n1 + 1 = n by omega] at this
   rw [← this, hv]
  ·have hb : ((x : Int) == 0) = false := beq_false_of_ne (by omega)
   have hres : wJ (val l) = .lst ((l.take n).map u64) := by
    rw [sV (a := l) (n := n) hw hv (.inr ⟨x, by rw [← hn1]; exact hx, hz⟩)]; rfl
   have hln : (l.take n).length = n := by rw [List.length_take]; omega
   have happ := fu (H := [zG 0 []]) (k := 0) (ver := 0) (out := []) (ys := l.take n) rfl (by simp; omega)
   rw [hln] at happ
   simp only [List.map_take, List.length_nil, Nat.zero_add, List.nil_append, List.set_cons_zero] at happ
   simp [zG, -qC] at happ
   simp [h0, h3, h, hw1, hx, hb, hres, hnI, zO, au_comp, happ, -qC]
   refine ⟨by rw [Nat.min_eq_left hn]; exact Nat.le_refl _, ?_⟩
   rw [List.take_take, Nat.min_self, zT]
 ·have hn0 : n = 0 := by omega
  subst hn0
  have hz : val l = 0 := by rw [← hv]; rfl
  simp [h0, h3, hz, wJ, jK, zy, zO]
theorem rvalid_ok : zH Tryz.prog base 102 (za jE) := by
 refine zd zE Tab.none_ok ze low102 fun args z hs hf => ?_
 unfold jE at hs
 split at hs
 case h_2 => cases hs
 rename_i es
 split at hs
 case h_2 => cases hs
 rename_i l hd
 obtain ⟨rfl, hw⟩ := zI hd
 cases hs
 refine ⟨by simp [lf102], ?_⟩
 have hc := r9 hw
 by_cases h1 : (l.length : Int) ≤ 64
 ·have h1' : l.length ≤ 64 := by omega
  by_cases h0 : l.length = 0
  ·have : l = [] := List.length_eq_zero_iff.1 h0
   subst this
   simp [lf102, qx, zy]
  ·have hw1 := gL (i := l.length) (by omega) (by omega)
   obtain ⟨x, hx⟩ : ∃ x, l[l.length - 1]? = some x := ⟨_, List.getElem?_eq_getElem (by omega)⟩
   have hb2 : ((l.length : Int) == 0) = false := beq_false_of_ne (by omega)
   have hlast : l.getLast? = some x := by rw [List.getLast?_eq_getElem?]; exact hx
   rw [hlast] at hc
   by_cases hz : x = 0
   ·subst hz
    have hne : ¬ zc (val l) = l := fun e => hc.1 e rfl
    have hb : ((0 : Int) != 0) = false := rfl
    simp [lf102, h1, h1', hw1, hx, hb2, hne]
   ·have hb : ((x : Int) != 0) = true := by simp; omega
    have heq : zc (val l) = l := hc.2 (fun e => hz (by simpa using e))
    simp [lf102, h1, h1', hw1, hx, hb, hb2, heq]
 ·have h1' : ¬ l.length ≤ 64 := by omega
  simp [lf102, h1, h1']
theorem rcmp_ok : zH Tryz.prog base 120 (za wS) := by
 refine zd zE Tab.none_ok ze low120 fun args z hs hf => ?_
 unfold wS at hs
 split at hs
 case h_2 => cases hs
 rename_i xs ys
 split at hs
 case h_2 => cases hs
 rename_i a b ha hb
 cases hs
 obtain ⟨rfl, hla⟩ := zD ha
 obtain ⟨rfl, hlb⟩ := zD hb
 refine ⟨by simp [lf120], ?_⟩
 have wa := zC a
 have wb := zC b
 have va := zx a
 have vb := zx b
 have la : len a = (zc a).length := rfl
 have lb : len b = (zc b).length := rfl
 by_cases h : (zc a).length = (zc b).length
 ·have hbn : (((zc a).length : Int) != ((zc b).length : Int)) = false := by simp [h]
  simp [lf120, hbn]
  simp only [lf120_B0, zr]
  refine zo (fun fr H => ∃ n : Nat, n ≤ (zc a).length ∧ (zc a).drop n = (zc b).drop n ∧ fr 0 = .p (.lst ((zc a).map u64)) ∧ fr 1 = .p (.lst ((zc b).map u64)) ∧ fr 5 = .p (.int .i64 ((n : Int) - 1)))
   (fun fr _ => rW (fr 5)) ⟨(zc a).length, by omega, by rw [List.drop_length, h, List.drop_length], by simp, by simp, ?_⟩ ?_
  ·simp [IntWalk.i64_in ((zc a).length - 1) (by omega)]
  rintro fr H ⟨n, hn, hd, h0, h1, h5⟩
  by_cases hn0 : 0 < n
  ·obtain ⟨m, rfl⟩ : ∃ m, n = m + 1 := ⟨n - 1, by omega⟩
   have e5 : (((m + 1 : Nat) : Int) - 1) = (m : Int) := by omega
   rw [e5] at h5
   obtain ⟨x, hx⟩ : ∃ x, (zc a)[m]? = some x := ⟨_, List.getElem?_eq_getElem (by omega)⟩
   obtain ⟨y, hy⟩ : ∃ y, (zc b)[m]? = some y := ⟨_, List.getElem?_eq_getElem (by omega)⟩
   have hmb : m < (zc b).length := by omega
   have hma : m < (zc a).length := by omega
   by_cases hxy : x = y
   ·subst hxy
    have hw : IntKind.i64.wrap ((m : Int) - 1) = (m : Int) - 1 := IntWalk.i64_in _ (by omega)
    simp [h0, h1, h5, z3 hx, z3 hy, hma, hmb, hw, rW]
    exact ⟨m, by omega, by rw [vM hx, vM hy, hd], rfl⟩
   ·have hc : qW a b = qW x y := by
     have := r8 wa wb hd hx hy hxy
     rwa [va, vb] at this
    by_cases hlt : x < y
    ·have hc2 : qW x y = -1 := jU hlt
     have hltI : (x : Int) < y := by omega
     simp [h0, h1, h5, z3 hx, z3 hy, hma, hmb, hlt, hc, hc2]
    ·have hgt : y < x := by omega
     have hc2 : qW x y = 1 := cd hgt
     simp [h0, h1, h5, z3 hx, z3 hy, hma, hmb, hlt, hgt, hc, hc2]
  ·have : n = 0 := by omega
   subst this
   have e : a = b := by
    rw [List.drop_zero, List.drop_zero] at hd
    rw [← va, ← vb, hd]
   subst e
   simp [h5, cmpI_eq]
 ·have hbn : (((zc a).length : Int) != ((zc b).length : Int)) = true := by simp; omega
  by_cases h1 : (zc a).length < (zc b).length
  ·have hc : qW a b = -1 := jU (bY h1)
   simp [lf120, hbn, h1, hc]
  ·have h2 : (zc b).length < (zc a).length := by omega
   have hc : qW a b = 1 := cd (bY h2)
   simp [lf120, hbn, h1, hc]
def Tb64 : Tab := Tab.none.with 100 (za kR)
theorem Tb64_ok : TabOk Tryz.prog base Tb64 := Tab.with_ok Tab.none_ok gb
theorem Tb64_mu (f : FuncId) (a : List AVal) (H : zb) : Tb64.mu f a H = none := (rfl)
theorem Tb64_len : Tb64.fn 100 = za kR := (rfl)
theorem rbits_ok : zH Tryz.prog base 132 (za ta) := by
 refine zd zE Tb64_ok ze low132 fun args z hs hf => ?_
 unfold ta at hs
 split at hs
 case h_2 => cases hs
 rename_i xs
 split at hs
 case h_2 => cases hs
 rename_i a ha
 cases hs
 obtain ⟨rfl, hla⟩ := zD ha
 refine ⟨by simp [lf132], ?_⟩
 have la : (zc a).length = len a := rfl
 by_cases h : a = 0
 ·subst h
  simp [lf132, zy, sX]
 ·have hl : len a ≠ 0 := fun e => h (qc.1 e)
  have hb : ((len a : Int) == 0) = false := beq_false_of_ne (by omega)
  obtain ⟨n1, hn1⟩ : ∃ t, t = len a - 1 := ⟨_, rfl⟩
  obtain ⟨x, hx⟩ : ∃ x, (zc a)[len a - 1]? = some x := ⟨_, List.getElem?_eq_getElem (by omega)⟩
  have hxB := (zC a).get hx
  have hsz := size_top h hx
  rw [← hn1] at hx hsz
  have h64 := xk hxB
  have w1 : IntKind.i64.wrap ((len a : Int) - 1) = (n1 : Int) := by rw [IntWalk.i64_in _ (by omega)]; omega
  obtain ⟨p, hp⟩ : ∃ t, t = 64 * n1 := ⟨_, rfl⟩
  have w2 : IntKind.i64.wrap (64 * (n1 : Int)) = (p : Int) := by rw [IntWalk.i64_in _ (by omega)]; omega
  have w3 : IntKind.i64.wrap ((p : Int) + size x) = (size a : Int) := by rw [IntWalk.i64_in _ (by omega)]; omega
  have hL := pP hxB
  simp [lf132, la, hb, w1, w2, w3, hL, hx, Tb64_mu, Tb64_len]
def IsRow (H : zb) (x : AVal) (l : List Nat) : Prop := (l = [] ∧ x = .tight []) ∨ ∃ j ver, x = .own j 0 l.length ver ∧ H[j]? = some (zG ver l)
theorem fo {H : zb} {x : AVal} {l : List Nat} (h : IsRow H x l) (y : Nat) (hn : l.length + 1 ≤ 1000000) (g : Ent) :
  ∃ j ver H', qC 1 8 147 x [.p (.int .u64 y)] (H ++ [g]) = some (.own j 0 (l.length + 1) ver, H') ∧ H'[j]? = some (zG ver (l ++ [y])) := by
 rcases h with ⟨rfl, rfl⟩ | ⟨j, ver, rfl, hj⟩
 ·refine ⟨_, _, _, app_nil (H := H ++ [g]) (ys := [y]) (by simp), ?_⟩
  rw [List.getElem?_append_right (Nat.le_refl _), Nat.sub_self]; rfl
 ·have hjl := (List.getElem?_eq_some_iff.1 hj).1
  have hj' : (H ++ [g])[j]? = some (zG ver l) := by rw [List.getElem?_append_left hjl]; exact hj
  exact ⟨_, _, _, fu (ys := [y]) hj' (by simpa using hn), by rw [List.getElem?_set_self (by simp; omega)]⟩
theorem IsRow.own {H : zb} {j ver : Nat} {l : List Nat} (h : H[j]? = some (zG ver l)) : IsRow H (.own j 0 l.length ver) l := .inr ⟨j, ver, rfl, h⟩
theorem limb_at {a : List Nat} (ha : Wf a) (i : Nat) : ∃ x, x < B ∧ val (a.take (i + 1)) = val (a.take i) + B ^ i * x ∧ ((i < a.length ∧ a[i]? = some x) ∨ (¬ i < a.length ∧ x = 0)) := by
 by_cases h : i < a.length
 ·obtain ⟨x, hx⟩ : ∃ x, a[i]? = some x := ⟨_, List.getElem?_eq_getElem h⟩
  exact ⟨x, ha.get hx, zB hx, .inl ⟨h, hx⟩⟩
 ·have hn : a[i]? = none := List.getElem?_eq_none (by omega)
  exact ⟨0, qw, by rw [gN hn]; simp, .inr ⟨h, rfl⟩⟩
def Trs : Tab := ((Tab.none.with 66 (za qM)).ext 144 jH).ext 148 kO
theorem Trs_ok : TabOk Tryz.prog base Trs := Tab.ext_ok (Tab.ext_ok (Tab.with_ok Tab.none_ok bk) sn) fT
theorem Trs_mu (f : FuncId) (a : List AVal) (H : zb) : Trs.mu f a H = none := (rfl)
theorem aK : Trs.fn 66 = za qM := (rfl)
theorem Trs_sub : Trs.ex 148 = kO := (rfl)
theorem rsub_ok : zH Tryz.prog base 134 (za kQ) := by
 refine zd zE Trs_ok ze low134 fun args z hs hf => ?_
 unfold kQ at hs
 split at hs
 case h_2 => cases hs
 rename_i xs ys
 split at hs
 case h_2 => cases hs
 rename_i a b ha hb
 split at hs
 case isFalse => cases hs
 rename_i hba
 cases hs
 obtain ⟨rfl, hla⟩ := zD ha
 obtain ⟨rfl, hlb⟩ := zD hb
 refine ⟨by simp [lf134], ?_⟩
 have wa := zC a
 have wb := zC b
 have va := zx a
 have vb := zx b
 have la : (zc a).length = len a := rfl
 have lb : (zc b).length = len b := rfl
 have hlen := qu hba
 simp [lf134]
 simp only [lf134_B0, zr]
 refine zo (fun fr H => ∃ (i : Nat) (l : List Nat) (c : Nat) (x : AVal), i ≤ len a ∧ l.length = i ∧ Wf l ∧ c ≤ 1 ∧ val l + val ((zc b).take i) = val ((zc a).take i) + B ^ i * c ∧ IsRow H x l ∧
   fr 0 = .p (.lst ((zc a).map u64)) ∧ fr 1 = .p (.lst ((zc b).map u64)) ∧ fr 5 = x ∧ fr 6 = .p (.int .u64 c) ∧ fr 7 = .p (.int .i64 i))
  (fun fr _ => len a - zA (fr 7)) ⟨0, [], 0, .tight [], by omega, rfl, Wf.nil, by omega, by simp [qx], .inl ⟨rfl, rfl⟩, by simp, by simp, by simp, by simp, by simp⟩ ?_
 rintro fr H ⟨i, l, c, x, hi, hl, hwl, hc, hv, hR, f0, f1, f5, f6, f7⟩
 by_cases hp1 : i < len a
 ·obtain ⟨p, hp2⟩ : ∃ p, (zc a)[i]? = some p := ⟨_, List.getElem?_eq_getElem (by omega)⟩
  have hpB := wa.get hp2
  have hpv := zB hp2
  obtain ⟨q, hqB, hqv, hq⟩ := limb_at wb i
  rw [lb] at hq
  have hst := py (p := val l) (u := val ((zc a).take i)) (v := val ((zc b).take i)) (P := B ^ i) hpB hqB hc hv
  have hsa := kN (x := p) (y := q) hc
  have hD := bO p q c
  have hC := dI p q c
  obtain ⟨D, hDD⟩ : ∃ t, t = uc p q c := ⟨_, rfl⟩
  obtain ⟨C, hCC⟩ : ∃ t, t = yT p q c := ⟨_, rfl⟩
  rw [← hDD, ← hCC] at hsa hst
  rw [← hDD] at hD
  rw [← hCC] at hC
  obtain ⟨j, ver, H', happ, hj⟩ := fo hR D (by omega) ⟨1, 0, false, [.p (.int .u64 D)], 147⟩
  have hnew : val (l ++ [D]) + val ((zc b).take (i + 1)) = val ((zc a).take (i + 1)) + B ^ (i + 1) * C := by
   rw [yZ, hl, hpv, hqv, Nat.pow_succ, ← hst]
  have hwn : Wf (l ++ [D]) := hwl.append (Wf.cons hD Wf.nil)
  have hw := zs (i := i) (by omega)
  have hRn : IsRow H' (.own j 0 (l.length + 1) ver) (l ++ [D]) := by
   have := IsRow.own hj
   simpa using this
  rcases hq with ⟨hq1, hq2⟩ | ⟨hq1, rfl⟩
  ·simp [f0, f1, f5, f6, f7, la, lb, hp1, hq1, z3 hp2, z3 hq2, hsa, happ, hw, zO, Trs_sub, zA, -qC]
   exact ⟨⟨i + 1, by omega, l ++ [D], by simp [hl], hwn, C, hC, hnew, _, hRn, rfl, rfl, by omega⟩, by omega⟩
  ·simp only [Int.natCast_zero] at hsa
   simp [f0, f1, f5, f6, f7, la, lb, hp1, hq1, z3 hp2, hsa, happ, hw, zO, Trs_sub, zA, -qC]
   exact ⟨⟨i + 1, by omega, l ++ [D], by simp [hl], hwn, C, hC, hnew, _, hRn, rfl, rfl, by omega⟩, by omega⟩
 ·have hva : val ((zc a).take i) = a := by rw [List.take_of_length_le (by omega)]; exact va
  have hvb : val ((zc b).take i) = b := by rw [List.take_of_length_le (by omega)]; exact vb
  rw [hva, hvb] at hv
  subst f5
  have hvl := kG hwl
  rw [hl] at hvl
  have hc0 : c = 0 := by
   rcases Nat.eq_zero_or_pos c with h | h
   ·exact h
   ·have : c = 1 := by omega
    subst this
    omega
  subst hc0
  have hvl : val l = a - b := by omega
  have ht := vY hwl (by omega)
  rw [hvl] at ht
  rcases hR with ⟨hl0, hx⟩ | ⟨j, ver, hx, hj⟩
  ·rw [hl0] at ht
   simp only [List.map_nil] at ht
   simp [f0, hx, f7, la, hp1, ht, Trs_mu, aK, wJ, jK]
  ·unfold zG at hj
   have htk : List.take l.length (l.map u64) = l.map u64 := List.take_of_length_le (by simp)
   simp [f0, hx, hj, f7, la, hp1, ht, htk, zT, zU, Trs_mu, aK, wJ, jK]
theorem zam : ∀ {l : List Nat} {m o : Nat} (t : Nat), l[m]? = some o → val (l.set m t) + B ^ m * o = val l + B ^ m * t
 | [], m, o, t, h => by simp at h
 | x :: r, 0, o, t, h => by
  simp only [List.getElem?_cons_zero, Option.some.injEq] at h
  subst h
  simp only [List.set_cons_zero, qS, Nat.pow_zero, Nat.one_mul]
  omega
 | x :: r, m + 1, o, t, h => by
  simp only [List.getElem?_cons_succ] at h
  have ih := zam t h
  simp only [List.set_cons_succ, qS, Nat.pow_succ]
  generalize val (r.set m t) = u at *
  generalize val r = v at *
  generalize B ^ m = p at *
  grind
end Go.Proofs.YtgbjjikaenlkmaaGreat

namespace Go.Proofs.YtgbjjikaenlkmaaGreat
open Go Go.Abs
def lf112 : LFunc := ⟨17,[.slot 2],.seq (.region [Oa 1 (.newv 2 113 (Tm 0)),Oa 2 (.mov Kg)]) (.seq (.region [Oz 3 1 1,Oq 4 1 false 3,Oa 5 (.call 105 [Tm 4]),Om 6 5,Oc 7 6 (.fadr 0 (Tm 1)),Oc 8 6 (.load 1 false (Tm 7)),Oc 9 6 (.un .not (Tm 8)),Oj 10 6 9,Od 11 10 (.fadr 1 (Tm 1)),Od 12 10 (.load 1 false (Tm 11)),Od 13 10 (.len (Tm 12)),Od 14 10 (.bin .gtr (Tm 13) (Kz 0)),Oc 15 6 (.pick (Tm 10) Kt (Tm 14)),Ot 16 6 15,Om 2 16]) (.ret))⟩
theorem low112 : zi Tryz.prog gl0 112 = some lf112 := Go.Abs.lowF (by kernel_rfl)
def lf73 : LFunc := ⟨13,[.cell 2 2 true],.seq (.region [Oa 2 (.newv 2 113 (.cst (.agg [.p (.bool false),.tight []])))]) (.seq (.seq (.region [Om 3 0,Oa 4 (.bin .geq (Tm 3) (Kz 0))]) (.cond (Tm 4) (.seq (.region [Om 5 0,Oa 6 (.call 113 [Tm 5]),Oa 7 (.build (.agg [.p (.bool false),.tight []]) [(1,1,(Tm 6))]),Oy 2 2 7]) (.ret)) (.skip))) (.seq (.region [Om 8 0,Oa 9 (.conv (.toInt .u64) (Tm 8)),Oa 10 (.un .neg (Tm 9)),Oa 11 (.buildSl 1 147 (.p (.int .u64 0)) 1 [(0,(Tm 10))]),Oa 12 (.build (.agg [.p (.bool false),.tight []]) [(0,1,Kt),(1,1,(Tm 11))]),Oy 2 2 12]) (.ret)))⟩
theorem low73 : zi Tryz.prog gl0 73 = some lf73 := Go.Abs.lowF (by kernel_rfl)
def lf140 : LFunc := ⟨13,[.cell 4 2 true],.seq (.region [Oa 4 (.newv 2 113 (.cst (.agg [.p (.bool false),.tight []])))]) (.seq (.region [Om 5 0,Om 6 5,Oj 7 6 1,Oc 8 6 (.len (Tm 7)),Oc 9 6 (.bin .gtr (Tm 8) (Kz 0)),Ot 10 6 9,Om 11 1,Oa 12 (.build (.agg [.p (.bool false),.tight []]) [(0,1,(Tm 10)),(1,1,(Tm 11))]),Oy 2 4 12]) (.ret))⟩
theorem low140 : zi Tryz.prog gl0 140 = some lf140 := Go.Abs.lowF (by kernel_rfl)
def lf110 : LFunc := ⟨16,[.slot 2],.seq (.region [Oa 1 (.newv 2 113 (Tm 0)),Oa 2 (.mov (Kz 0))]) (.seq (.block 0 (.seq (.region [Oq 4 2 true 1,Oa 5 (.call 112 [Tm 4]),Oa 6 (.un .not (Tm 5)),Om 7 6,Od 8 7 (.fadr 1 (Tm 1)),Od 9 7 (.load 1 false (Tm 8)),Od 10 7 (.len (Tm 9)),Od 11 7 (.bin .eql (Tm 10) (Kz 0)),Ou 12 7 11,Om 3 12]) (.cond (Tm 3) (.seq (.region [Oa 2 (.mov (Kz 0))]) (.ret)) (.seq (.region [Oz 14 0 1,Oq 15 1 false 14,Om 13 15]) (.cond (Tm 13) (.seq (.region [Oa 2 (.mov (Kz (-1)))]) (.ret)) (.skip)))))) (.seq (.region [Oa 2 (.mov (Kz 1))]) (.ret)))⟩
theorem low110 : zi Tryz.prog gl0 110 = some lf110 := Go.Abs.lowF (by kernel_rfl)
def lf114 : LFunc := ⟨42,[.cell 4 2 true],.seq (.region [Oa 2 (.newv 2 113 (Tm 0)),Oa 3 (.newv 2 113 (Tm 1)),Oa 4 (.newv 2 113 (.cst (.agg [.p (.bool false),.tight []])))]) (.seq (.block 0 (.seq (.region [Oz 6 0 2,Oq 7 1 false 6,Oz 8 0 3,Oq 9 1 false 8,Oa 10 (.eqB false (Tm 7) (Tm 9)),Om 5 10]) (.cond (Tm 5) (.seq (.regionW [(Oz 11 0 2,.s),(Oq 12 1 false 11,.s),(Oz 13 1 2,.f),(Oq 14 1 false 13,.f),(Oz 15 1 3,.f),(Oq 16 1 false 15,.f),(Oa 17 (.call 141 [Tm 14,Tm 16]),.s),(Oa 18 (.call 140 [Tm 12,Tm 17]),.f),(Oy 2 4 18,.f)]) (.ret)) (.seq (.region [Oz 20 1 2,Oq 21 1 false 20,Oz 22 1 3,Oq 23 1 false 22,Oa 24 (.call 106 [Tm 21,Tm 23]),Oa 25 (.bin .lss (Tm 24) (Kz 0)),Om 19 25]) (.cond (Tm 19) (.seq (.regionW [(Oz 26 0 3,.s),(Oq 27 1 false 26,.s),(Oz 28 1 3,.f),(Oq 29 1 false 28,.f),(Oz 30 1 2,.f),(Oq 31 1 false 30,.f),(Oa 32 (.call 142 [Tm 29,Tm 31]),.s),(Oa 33 (.call 140 [Tm 27,Tm 32]),.f),(Oy 2 4 33,.f)]) (.ret)) (.skip)))))) (.seq (.regionW [(Oz 34 0 2,.s),(Oq 35 1 false 34,.s),(Oz 36 1 2,.f),(Oq 37 1 false 36,.f),(Oz 38 1 3,.f),(Oq 39 1 false 38,.f),(Oa 40 (.call 142 [Tm 37,Tm 39]),.s),(Oa 41 (.call 140 [Tm 35,Tm 40]),.f),(Oy 2 4 41,.f)]) (.ret)))⟩
theorem low114 : zi Tryz.prog gl0 114 = some lf114 := Go.Abs.lowF (by kernel_rfl)
def lf115 : LFunc := ⟨16,[.cell 4 2 true],.seq (.region [Oa 2 (.newv 2 113 (Tm 0)),Oa 3 (.newv 2 113 (Tm 1)),Oa 4 (.newv 2 113 (.cst (.agg [.p (.bool false),.tight []])))]) (.seq (.regionW [(Oz 5 0 2,.s),(Oq 6 1 false 5,.s),(Oz 7 0 3,.s),(Oq 8 1 false 7,.s),(Oa 9 (.eqB true (Tm 6) (Tm 8)),.f),(Oz 10 1 2,.f),(Oq 11 1 false 10,.f),(Oz 12 1 3,.f),(Oq 13 1 false 12,.f),(Oa 14 (.call 109 [Tm 11,Tm 13]),.s),(Oa 15 (.call 140 [Tm 9,Tm 14]),.f),(Oy 2 4 15,.f)]) (.ret))⟩
theorem low115 : zi Tryz.prog gl0 115 = some lf115 := Go.Abs.lowF (by kernel_rfl)
def lf38 : LFunc := ⟨16,[.cell 2 2 true],.seq (.region [Oa 2 (.newv 2 113 (.cst (.agg [.p (.bool false),.tight []])))]) (.seq (.region [Om 4 0,Oa 5 (.conv (.toInt .u64) (Tm 4)),Om 3 5]) (.seq (.seq (.region [Om 6 0,Oa 7 (.bin .lss (Tm 6) (Kz 0))]) (.cond (Tm 7) (.region [Om 8 3,Oa 9 (.un .neg (Tm 8)),Om 3 9]) (.skip))) (.seq (.region [Om 10 0,Oa 11 (.bin .lss (Tm 10) (Kz 0)),Om 12 3,Oa 13 (.buildSl 1 147 (.p (.int .u64 0)) 1 [(0,(Tm 12))]),Oa 14 (.call 66 [Tm 13]),Oa 15 (.call 65 [Tm 11,Tm 14]),Oy 2 2 15]) (.ret))))⟩
theorem low38 : zi Tryz.prog gl0 38 = some lf38 := Go.Abs.lowF (by kernel_rfl)
def lf63 : LFunc := ⟨17,[.slot 2],.seq (.region [Oa 1 (.newv 2 113 (Tm 0)),Oa 2 (.mov Kg)]) (.seq (.region [Oz 3 1 1,Oq 4 1 false 3,Oa 5 (.call 102 [Tm 4]),Om 6 5,Oc 7 6 (.fadr 0 (Tm 1)),Oc 8 6 (.load 1 false (Tm 7)),Oc 9 6 (.un .not (Tm 8)),Oj 10 6 9,Od 11 10 (.fadr 1 (Tm 1)),Od 12 10 (.load 1 false (Tm 11)),Od 13 10 (.len (Tm 12)),Od 14 10 (.bin .gtr (Tm 13) (Kz 0)),Oc 15 6 (.pick (Tm 10) Kt (Tm 14)),Ot 16 6 15,Om 2 16]) (.ret))⟩
theorem low63 : zi Tryz.prog gl0 63 = some lf63 := Go.Abs.lowF (by kernel_rfl)
def lf65 : LFunc := ⟨13,[.cell 4 2 true],.seq (.region [Oa 4 (.newv 2 113 (.cst (.agg [.p (.bool false),.tight []])))]) (.seq (.region [Om 5 0,Om 6 5,Oj 7 6 1,Oc 8 6 (.len (Tm 7)),Oc 9 6 (.bin .gtr (Tm 8) (Kz 0)),Ot 10 6 9,Om 11 1,Oa 12 (.build (.agg [.p (.bool false),.tight []]) [(0,1,(Tm 10)),(1,1,(Tm 11))]),Oy 2 4 12]) (.ret))⟩
theorem low65 : zi Tryz.prog gl0 65 = some lf65 := Go.Abs.lowF (by kernel_rfl)
end Go.Proofs.YtgbjjikaenlkmaaGreat

namespace Go.Proofs.YtgbjjikaenlkmaaGreat
open Go Go.Abs Go.Limbs
variable {base : Prot}
set_option maxRecDepth 20000
attribute [local irreducible] vc
attribute [local simp] za zh freezeL fuel zk u64 au
def iP (s : Bool) (l : List Nat) : PVal := .agg [.bool s, .lst (l.map u64)]
def iN (z : Int) : PVal := iP (decide (z < 0)) (zc z.natAbs)
def zOf (s : Bool) (n : Nat) : Int := if s then -(n : Int) else n
def okI (s : Bool) (l : List Nat) : Bool := okL l && (!s || decide (0 < l.length))
def zl (z : Int) : Nat := len z.natAbs
theorem wX (s : Bool) (n : Nat) : (zOf s n).natAbs = n := by cases s <;> simp [zOf]
theorem iP_zOf {s : Bool} {n : Nat} (h : s = true → n ≠ 0) : iP s (zc n) = iN (zOf s n) := by
 unfold iN
 rw [wX]
 congr 1
 cases s with
 | false => simp [zOf]
 | true => have := h rfl; simp [zOf]; omega
theorem wide_zOf (s : Bool) (n : Nat) : iP (s && decide (0 < (zc n).length)) (zc n) = iN (zOf s n) := by
 by_cases h : n = 0
 ·subst h
  rw [zy]
  cases s <;> simp [iN, zOf, zy]
 ·have hl : 0 < (zc n).length := by
   have : (zc n).length ≠ 0 := fun e => h (qc.1 e)
   omega
  rw [decide_eq_true hl, Bool.and_true]
  exact iP_zOf fun _ => h
theorem rr {s : Bool} {l : List Nat} (h : okI s l = true) : ∃ z : Int, zl z ≤ 64 ∧ s = decide (z < 0) ∧ l = zc z.natAbs := by
 unfold okI at h
 simp only [Bool.and_eq_true, Bool.or_eq_true, Bool.not_eq_true', decide_eq_true_eq] at h
 obtain ⟨n, rfl, hn⟩ := bp h.1
 have hs : s = true → n ≠ 0 := fun e h0 => by
  subst h0
  rcases h.2 with h2 | h2
  ·rw [e] at h2; cases h2
  ·rw [zy] at h2; simp at h2
 refine ⟨zOf s n, by unfold zl; rw [wX]; exact hn, ?_, by rw [wX]⟩
 cases s with
 | false => simp [zOf]
 | true => have := hs rfl; simp [zOf]; omega
theorem xF {z : Int} (h : zl z ≤ 64) : okI (decide (z < 0)) (zc z.natAbs) = true := by
 unfold okI
 rw [hU h, Bool.true_and]
 by_cases hz : z < 0
 ·have : (zc z.natAbs).length ≠ 0 := fun e => by have := qc.1 e; omega
  have hl : 0 < (zc z.natAbs).length := by omega
  simp [hz, hl]
 ·simp [hz]
theorem vJ (z : Int) : zOf (decide (z < 0)) z.natAbs = z := by
 by_cases h : z < 0
 ·simp [zOf, h]; omega
 ·simp [zOf, h]; omega
def sIV : List PVal → Option PVal
 | [.agg [.bool s, .lst xs]] => match jz xs with | some l => some (.bool (okI s l)) | none => none
 | _ => none
theorem be {s : Bool} {l : List Nat} (h : Wf l) : sIV [.agg [.bool s, .lst (l.map u64)]] = some (.bool (okI s l)) := by simp only [sIV, zY h]
def Tiv1 : Tab := Tab.none.with 105 (za jE)
theorem Tiv1_ok : TabOk Tryz.prog base Tiv1 := Tab.with_ok Tab.none_ok pt
theorem fE (f : FuncId) (a : List AVal) (H : zb) : Tiv1.mu f a H = none := (rfl)
theorem fF : Tiv1.fn 105 = za jE := (rfl)
theorem tN : zH Tryz.prog base 112 (za sIV) := by
 refine zd zE Tiv1_ok ze low112 fun args z hs hf => ?_
 unfold sIV at hs
 split at hs
 case h_2 => cases hs
 rename_i s xs
 split at hs
 case h_2 => cases hs
 rename_i l hd
 obtain ⟨rfl, wl⟩ := zI hd
 cases hs
 refine ⟨by simp [lf112], ?_⟩
 have hv := uf wl
 unfold okI
 cases ho : okL l with
 | false => rw [ho] at hv; simp [lf112, hv, fE, fF]
 | true =>
  rw [ho] at hv
  cases s with
  | false => simp [lf112, hv, fE, fF]
  | true => simp [lf112, hv, fE, fF]
def yR : List PVal → Option PVal
 | [.bool s, .lst xs] => match jz xs with | some l => some (iP (s && decide (0 < l.length)) l) | none => none
 | _ => none
theorem uM (s : Bool) (n : Nat) : ∃ b l, iN (zOf s n) = iP b l ∧ Wf l ∧ yR [.bool s, .lst ((zc n).map u64)] = some (.agg [.bool b, .lst (l.map u64)]) :=
 ⟨_, _, (wide_zOf s n).symm, zC n, by simp only [yR, zY (zC n)]; rfl⟩
theorem zai : zH Tryz.prog base 140 (za yR) := by
 refine zd zE Tab.none_ok ze low140 fun args z hs hf => ?_
 unfold yR at hs
 split at hs
 case h_2 => cases hs
 rename_i s xs
 split at hs
 case h_2 => cases hs
 rename_i l hd
 obtain ⟨rfl, wl⟩ := zI hd
 cases hs
 refine ⟨by simp [lf140], ?_⟩
 cases s with
 | false => simp [lf140, iP]
 | true => simp [lf140, iP]
def eV (s : Bool) (xs : List PVal) : Option Int := match vq xs with | some n => if s = true ∧ n = 0 then none else some (zOf s n) | none => none
theorem b9 {s : Bool} {xs : List PVal} {z : Int} (h : eV s xs = some z) : zl z ≤ 100000 ∧ s = decide (z < 0) ∧ xs = (zc z.natAbs).map u64 := by
 unfold eV at h
 split at h
 case h_2 => cases h
 rename_i n hn
 split at h
 ·cases h
 rename_i hc
 cases h
 obtain ⟨rfl, hl⟩ := zD hn
 refine ⟨by unfold zl; rw [wX]; exact hl, ?_, by rw [wX]⟩
 cases s with
 | false => simp [zOf]
 | true => have : n ≠ 0 := fun e => hc ⟨rfl, e⟩; simp [zOf]; omega
theorem gv {z : Int} (h : zl z ≤ 100000) : eV (decide (z < 0)) ((zc z.natAbs).map u64) = some z := by
 unfold eV
 rw [zM h]
 simp only
 rw [if_neg, vJ]
 rintro ⟨h1, h2⟩
 have := of_decide_eq_true h1
 omega
def Two : Tab := ((((Tab.none.with 106 (za wS)).with 141 (za pK)).with 142 (za kQ)).with 109 (za uA)).with 140 (za yR)
theorem Two_ok : TabOk Tryz.prog base Two := Tab.with_ok (Tab.with_ok (Tab.with_ok (Tab.with_ok (Tab.with_ok Tab.none_ok bo) plus_ok) er) pu) zai
theorem bL (f : FuncId) (a : List AVal) (H : zb) : Two.mu f a H = none := (rfl)
theorem uw : Two.fn 106 = za wS ∧ Two.fn 141 = za pK ∧ Two.fn 142 = za kQ ∧ Two.fn 109 = za uA ∧ Two.fn 140 = za yR := ⟨rfl, rfl, rfl, rfl, rfl⟩
theorem zOf_same {z w : Int} (h : decide (z < 0) = decide (w < 0)) : zOf (decide (z < 0)) (z.natAbs + w.natAbs) = z + w := by
 by_cases hz : z < 0
 ·have hw : w < 0 := by simpa [hz] using h
  simp [zOf, hz]; omega
 ·have hw : ¬ w < 0 := by simpa [hz] using h
  simp [zOf, hz]; omega
theorem zOf_less {z w : Int} (h : decide (z < 0) ≠ decide (w < 0)) (hl : z.natAbs < w.natAbs) : zOf (decide (w < 0)) (w.natAbs - z.natAbs) = z + w := by
 by_cases hz : z < 0
 ·have hw : ¬ w < 0 := by simpa [hz] using h
  simp [zOf, hw]; omega
 ·have hw : w < 0 := by simpa [hz] using h
  simp [zOf, hw]; omega
theorem zOf_more {z w : Int} (h : decide (z < 0) ≠ decide (w < 0)) (hl : w.natAbs ≤ z.natAbs) : zOf (decide (z < 0)) (z.natAbs - w.natAbs) = z + w := by
 by_cases hz : z < 0
 ·have hw : ¬ w < 0 := by simpa [hz] using h
  simp [zOf, hz]; omega
 ·have hw : w < 0 := by simpa [hz] using h
  simp [zOf, hz]; omega
theorem zah (z w : Int) : zOf (decide (z < 0) != decide (w < 0)) (z.natAbs * w.natAbs) = z * w := by
 have hz : z = zOf (decide (z < 0)) z.natAbs := (vJ z).symm
 have hw : w = zOf (decide (w < 0)) w.natAbs := (vJ w).symm
 generalize hs : decide (z < 0) = s at *
 generalize ht : decide (w < 0) = t at *
 generalize z.natAbs = m at *
 generalize w.natAbs = n at *
 subst hz hw
 cases s <;> cases t <;> simp [zOf, Int.neg_mul, Int.mul_neg]
def bc : List PVal → Option PVal
 | [.agg [.bool s, .lst xs], .agg [.bool t, .lst ys]] => match eV s xs, eV t ys with | some z, some w => some (iN (z + w)) | _, _ => none
 | _ => none
theorem ij {z w : Int} (hz : zl z ≤ 100000) (hw : zl w ≤ 100000) : bc [iN z, iN w] = some (iN (z + w)) := by
 simp only [bc, iN, iP, gv hz, gv hw]
def ue : List PVal → Option PVal
 | [.agg [.bool s, .lst xs], .agg [.bool t, .lst ys]] => match eV s xs, eV t ys with | some z, some w => some (iN (z * w)) | _, _ => none
 | _ => none
theorem mM {z w : Int} (hz : zl z ≤ 100000) (hw : zl w ≤ 100000) : ue [iN z, iN w] = some (iN (z * w)) := by
 simp only [ue, iN, iP, gv hz, gv hw]
theorem eC : zH Tryz.prog base 114 (za bc) := by
 refine zd zE Two_ok ze low114 fun args z hs hf => ?_
 unfold bc at hs
 split at hs
 case h_2 => cases hs
 rename_i s xs t ys
 split at hs
 case h_2 => cases hs
 rename_i z w hz hw
 cases hs
 obtain ⟨lz, rfl, rfl⟩ := b9 hz
 obtain ⟨lw, rfl, rfl⟩ := b9 hw
 refine ⟨by simp [lf114], ?_⟩
 unfold zl at lz lw
 obtain ⟨s, hs⟩ : ∃ s, s = decide (z < 0) := ⟨_, rfl⟩
 obtain ⟨t, ht⟩ : ∃ t, t = decide (w < 0) := ⟨_, rfl⟩
 obtain ⟨m, hm⟩ : ∃ m, m = z.natAbs := ⟨_, rfl⟩
 obtain ⟨n, hn⟩ : ∃ n, n = w.natAbs := ⟨_, rfl⟩
 have e1 := @zOf_same z w
 have e2 := @zOf_less z w
 have e3 := @zOf_more z w
 rw [← hm, ← hn, ← hs, ← ht] at e1 e2 e3
 rw [← hm] at lz
 rw [← hn] at lw
 rw [← hs, ← ht, ← hm, ← hn]
 have hP := sPlus_num lz lw
 have hO := kP lz lw
 by_cases hst : s = t
 ·obtain ⟨b, l, hbl, wl, hW⟩ := uM s (m + n)
  rw [← e1 hst, hbl]
  have hbe : (s == t) = true := by simp [hst]
  obtain ⟨p, hp⟩ : ∃ p, p = m + n := ⟨_, rfl⟩
  rw [← hp] at hP hW
  simp [lf114, hbe, zw, iP, bL, uw]
  refine ⟨[], ?_⟩
  simp [hP, hW, bL, uw]
 ·have hbe : (s == t) = false := by simp [hst]
  by_cases hlt : m < n
  ·obtain ⟨b, l, hbl, wl, hW⟩ := uM t (n - m)
   rw [← e2 hst hlt, hbl]
   rw [jU hlt] at hO
   have hM := cR lw lz (Nat.le_of_lt hlt)
   obtain ⟨p, hp⟩ : ∃ p, p = n - m := ⟨_, rfl⟩
   rw [← hp] at hM hW
   simp [lf114, hbe, hO, zw, iP, bL, uw]
   refine ⟨[], ?_⟩
   simp [hM, hW, bL, uw]
  ·obtain ⟨b, l, hbl, wl, hW⟩ := uM s (m - n)
   rw [← e3 hst (by omega), hbl]
   have hcn : ¬ qW m n < 0 := fun h => by have := r7.1 h; omega
   obtain ⟨c, hc⟩ : ∃ c, c = qW m n := ⟨_, rfl⟩
   rw [← hc] at hO hcn
   have hM := cR lz lw (by omega)
   obtain ⟨p, hp⟩ : ∃ p, p = m - n := ⟨_, rfl⟩
   rw [← hp] at hM hW
   simp [lf114, hbe, hO, hcn, zw, iP, bL, uw]
   refine ⟨[], ?_⟩
   simp [hM, hW, bL, uw]
theorem tO : zH Tryz.prog base 115 (za ue) := by
 refine zd zE Two_ok ze low115 fun args z hs hf => ?_
 unfold ue at hs
 split at hs
 case h_2 => cases hs
 rename_i s xs t ys
 split at hs
 case h_2 => cases hs
 rename_i z w hz hw
 cases hs
 obtain ⟨lz, rfl, rfl⟩ := b9 hz
 obtain ⟨lw, rfl, rfl⟩ := b9 hw
 refine ⟨by simp [lf115], ?_⟩
 unfold zl at lz lw
 have e1 := zah z w
 obtain ⟨s, hs⟩ : ∃ s, s = decide (z < 0) := ⟨_, rfl⟩
 obtain ⟨t, ht⟩ : ∃ t, t = decide (w < 0) := ⟨_, rfl⟩
 obtain ⟨m, hm⟩ : ∃ m, m = z.natAbs := ⟨_, rfl⟩
 obtain ⟨n, hn⟩ : ∃ n, n = w.natAbs := ⟨_, rfl⟩
 rw [← hm, ← hn, ← hs, ← ht] at e1
 rw [← hm] at lz
 rw [← hn] at lw
 rw [← hs, ← ht, ← hm, ← hn]
 have hP := jF lz lw
 obtain ⟨b, l, hbl, wl, hW⟩ := uM (s != t) (m * n)
 rw [← e1, hbl]
 obtain ⟨p, hp⟩ : ∃ p, p = m * n := ⟨_, rfl⟩
 rw [← hp] at hP hW
 rw [show (s != t) = (!s == t) from by cases s <;> cases t <;> rfl] at hW
 simp [lf115, zw, iP, bL, uw]
 refine ⟨[], ?_⟩
 simp [hP, hW, bL, uw]
def hN (z : Int) : PVal := if zl z ≤ 64 then iN z else iP false []
def hE (z : Int) : Int := if zl z ≤ 64 then 0 else 4
def zL (s : Bool) (l : List Nat) : Int := zOf s (val l)
theorem yV (z : Int) : zL (decide (z < 0)) (zc z.natAbs) = z := by unfold zL; rw [zx, vJ]
def xo (z : Int) : Int := if z < 0 then -1 else if z = 0 then 0 else 1
def cS : List PVal → Option PVal
 | [.agg [.bool s, .lst xs]] => match jz xs with | some a => some (.int .i64 (if okI s a then xo (zL s a) else 0)) | _ => none
 | _ => none
theorem oz {s : Bool} {a : List Nat} (ha : Wf a) : cS [.agg [.bool s, .lst (a.map u64)]] = some (.int .i64 (if okI s a then xo (zL s a) else 0)) := by simp only [cS, zY ha]
def Tio : Tab := ((((Tab.none.with 112 (za sIV)).with 114 (za bc)).with 115 (za ue)).with 140 (za yR)).with 117 (za wU)
theorem Tio_ok : TabOk Tryz.prog base Tio := Tab.with_ok (Tab.with_ok (Tab.with_ok (Tab.with_ok (Tab.with_ok Tab.none_ok tN) eC) tO) zai) uX
theorem fG (f : FuncId) (a : List AVal) (H : zb) : Tio.mu f a H = none := (rfl)
theorem pf : Tio.fn 112 = za sIV ∧ Tio.fn 114 = za bc ∧ Tio.fn 115 = za ue ∧ Tio.fn 140 = za yR ∧ Tio.fn 117 = za wU := ⟨rfl, rfl, rfl, rfl, rfl⟩
theorem iN_case (z : Int) : iN z = .agg [.bool (decide (z < 0)), .lst ((zc z.natAbs).map u64)] := rfl
theorem isign_ok : zH Tryz.prog base 110 (za cS) := by
 refine zd zE Tio_ok ze low110 fun args z hs hf => ?_
 unfold cS at hs
 split at hs
 case h_2 => cases hs
 rename_i s xs
 split at hs
 case h_2 => cases hs
 rename_i a ha
 obtain ⟨rfl, wa⟩ := zI ha
 cases hs
 refine ⟨by simp [lf110], ?_⟩
 have hv := be (s := s) wa
 cases ho : okI s a with
 | false => rw [ho] at hv; simp [lf110, hv, fG, pf]
 | true =>
  rw [ho] at hv
  obtain ⟨z, lz, rfl, rfl⟩ := rr ho
  rw [yV]
  have ll : (zc z.natAbs).length = len z.natAbs := rfl
  by_cases h0 : z = 0
  ·subst h0
   simp [zy] at hv
   simp [lf110, hv, zy, xo, fG, pf]
  ·have hn0 : len z.natAbs ≠ 0 := fun e => h0 (by have h6 := qc.1 e; omega)
   have hl : ((len z.natAbs : Int) == 0) = false := beq_false_of_ne (by omega)
   by_cases hz : z < 0
   ·simp [hz] at hv
    simp [lf110, hv, hz, ll, hl, xo, fG, pf]
   ·simp [hz] at hv
    simp [lf110, hv, hz, h0, ll, hl, xo, fG, pf]
def pS : List PVal → Option PVal
 | [.int .i64 n] => if -9223372036854775808 ≤ n ∧ n < 9223372036854775808 then some (iN n) else none
 | _ => none
theorem bR {n : Int} (h1 : -9223372036854775808 ≤ n) (h2 : n < 9223372036854775808) : pS [.int .i64 n] = some (iN n) := if_pos ⟨h1, h2⟩
theorem ofL_num {n : Int} (h0 : 0 ≤ n) (h : n < 9223372036854775808) : ofL n = zc n.natAbs := by
 unfold ofL
 by_cases hz : n ≤ 0
 ·have : n = 0 := by omega
  subst this
  simp [zy]
 ·rw [if_neg hz, IntKind.wrap_u64, j2 (by omega) (by rw [qz]; omega)]
  congr 1
  omega
def Tof : Tab := Tab.none.with 113 (za sOf)
theorem Tof_ok : TabOk Tryz.prog base Tof := Tab.with_ok Tab.none_ok of_ok
theorem Tof_mu (f : FuncId) (a : List AVal) (H : zb) : Tof.mu f a H = none := (rfl)
theorem Tof_fn : Tof.fn 113 = za sOf := (rfl)
theorem iof_ok : zH Tryz.prog base 73 (za pS) := by
 refine zd zE Tof_ok ze low73 fun args z hs hf => ?_
 unfold pS at hs
 split at hs
 case h_2 => cases hs
 rename_i n
 split at hs
 case isFalse => cases hs
 rename_i hc
 cases hs
 refine ⟨by simp [lf73], ?_⟩
 by_cases h0 : 0 ≤ n
 ·have h1 : sOf [.int .i64 n] = some (.lst ((ofL n).map u64)) := rfl
  rw [ofL_num h0 hc.2] at h1
  have hn : ¬ n < 0 := by omega
  simp [lf73, h0, h1, hn, iN, iP, Tof_mu, Tof_fn]
 ·have hn : n < 0 := by omega
  have w1 : IntKind.u64.wrap n = n + 18446744073709551616 := by rw [IntKind.wrap_u64]; omega
  obtain ⟨m, hm⟩ : ∃ m, m = n.natAbs := ⟨_, rfl⟩
  have w2 : IntKind.u64.wrap (-(n + 18446744073709551616)) = (m : Int) := by rw [IntKind.wrap_u64]; omega
  have hl : zc m = [m] := j2 (by omega) (by rw [qz]; omega)
  unfold iN iP
  rw [← hm, hl]
  simp [lf73, h0, hn, w1, w2, zO]
def Rv : Tab := Tab.none.with 102 (za jE)
theorem Rv_ok : TabOk Tryz.prog base Rv := Tab.with_ok Tab.none_ok rvalid_ok
theorem Rv_mu (f : FuncId) (a : List AVal) (H : zb) : Rv.mu f a H = none := (rfl)
theorem Rv_fn : Rv.fn 102 = za jE := (rfl)
theorem iF : zH Tryz.prog base 63 (za sIV) := by
 refine zd zE Rv_ok ze low63 fun args z hs hf => ?_
 unfold sIV at hs
 split at hs
 case h_2 => cases hs
 rename_i s xs
 split at hs
 case h_2 => cases hs
 rename_i l hd
 obtain ⟨rfl, wl⟩ := zI hd
 cases hs
 refine ⟨by simp [lf63], ?_⟩
 have hv := uf wl
 unfold okI
 cases ho : okL l with
 | false => rw [ho] at hv; simp [lf63, hv, Rv_mu, Rv_fn]
 | true =>
  rw [ho] at hv
  cases s with
  | false => simp [lf63, hv, Rv_mu, Rv_fn]
  | true => simp [lf63, hv, Rv_mu, Rv_fn]
theorem riwide_ok : zH Tryz.prog base 65 (za yR) := by
 refine zd zE Tab.none_ok ze low65 fun args z hs hf => ?_
 unfold yR at hs
 split at hs
 case h_2 => cases hs
 rename_i s xs
 split at hs
 case h_2 => cases hs
 rename_i l hd
 obtain ⟨rfl, wl⟩ := zI hd
 cases hs
 refine ⟨by simp [lf65], ?_⟩
 cases s with
 | false => simp [lf65, iP]
 | true => simp [lf65, iP]
def Rof : Tab := (Tab.none.with 66 (za qM)).with 65 (za yR)
theorem Rof_ok : TabOk Tryz.prog base Rof := Tab.with_ok (Tab.with_ok Tab.none_ok bk) riwide_ok
theorem Rof_mu (f : FuncId) (a : List AVal) (H : zb) : Rof.mu f a H = none := (rfl)
theorem Rof_fns : Rof.fn 66 = za qM ∧ Rof.fn 65 = za yR := ⟨rfl, rfl⟩
theorem riof_ok : zH Tryz.prog base 38 (za pS) := by
 refine zd zE Rof_ok ze low38 fun args z hs hf => ?_
 unfold pS at hs
 split at hs
 case h_2 => cases hs
 rename_i n
 split at hs
 case isFalse => cases hs
 rename_i hc
 cases hs
 refine ⟨by simp [lf38], ?_⟩
 obtain ⟨m, hm⟩ : ∃ m, m = n.natAbs := ⟨_, rfl⟩
 have hmB : m < B := by rw [qz]; omega
 have ht := vY (l := [m]) (Wf.cons hmB Wf.nil) (by simp)
 rw [show val [m] = m from by simp [val]] at ht
 simp only [List.map_cons, List.map_nil, u64] at ht
 obtain ⟨b1, l1, hbl1, wl1, hW⟩ := uM (decide (n < 0)) m
 rw [hm, vJ] at hbl1
 rw [hbl1]
 by_cases h0 : n < 0
 ·have w1 : IntKind.u64.wrap n = n + 18446744073709551616 := by rw [IntKind.wrap_u64]; omega
  have w2 : IntKind.u64.wrap (-(n + 18446744073709551616)) = (m : Int) := by rw [IntKind.wrap_u64]; omega
  simp only [h0, decide_true] at hW
  simp [lf38, h0, w1, w2, ht, hW, iP, zO, freeze1, Rof_mu, Rof_fns]
 ·have w1 : IntKind.u64.wrap n = (m : Int) := by rw [IntKind.wrap_u64]; omega
  simp only [h0, decide_false] at hW
  simp [lf38, h0, w1, ht, hW, iP, zO, freeze1, Rof_mu, Rof_fns]
end Go.Proofs.YtgbjjikaenlkmaaGreat

namespace Go.Proofs.YtgbjjikaenlkmaaGreat
open Go Go.Abs
def lf90 : LFunc := ⟨2,[.slot 0],.seq (.region [Oa 0 (.mov (.cst (.tight [])))]) (.seq (.region [Oa 1 (.call 113 [.cst (.p (.int .i64 1))]),Om 0 1]) (.ret))⟩
theorem low90 : zi Tryz.prog gl0 90 = some lf90 := Go.Abs.lowF (by kernel_rfl)
def lf69 : LFunc := ⟨44,[.slot 2],.seq (.region [Oa 1 (.newv 3 33 (Tm 0)),Oa 2 (.mov Kg)]) (.seq (.seq (.region [Oz 3 1 1,Oq 4 1 false 3,Oa 5 (.call 105 [Tm 4]),Oa 6 (.un .not (Tm 5)),Om 7 6,Od 8 7 (.fadr 2 (Tm 1)),Od 9 7 (.load 1 false (Tm 8)),Od 10 7 (.call 105 [Tm 9]),Od 11 7 (.un .not (Tm 10)),Ou 12 7 11,Om 13 12,Od 14 13 (.fadr 2 (Tm 1)),Od 15 13 (.load 1 false (Tm 14)),Od 16 13 (.len (Tm 15)),Od 17 13 (.bin .eql (Tm 16) (Kz 0)),Ou 18 13 17,Om 19 18,Od 20 19 (.fadr 0 (Tm 1)),Od 21 19 (.load 1 false (Tm 20)),Oo 22 19 21,Oc 23 22 (.fadr 1 (Tm 1)),Oc 24 22 (.load 1 false (Tm 23)),Oc 25 22 (.len (Tm 24)),Oc 26 22 (.bin .eql (Tm 25) (Kz 0)),Od 27 19 (.pick (Tm 22) (Tm 26) Kg),Ou 28 19 27]) (.cond (Tm 28) (.seq (.region [Oa 2 (.mov Kg)]) (.ret)) (.skip))) (.seq (.regionD [Oz 29 2 1,Oq 30 1 false 29,Oa 31 (.call 90 []),Oa 32 (.call 106 [Tm 30,Tm 31]),Oa 33 (.bin .eql (Tm 32) (Kz 0)),Om 34 33,Od 35 34 (.fadr 1 (Tm 1)),Od 36 34 (.load 1 false (Tm 35)),Od 37 34 (.fadr 2 (Tm 1)),Od 38 34 (.load 1 false (Tm 37)),Od 39 34 (.call 107 [Tm 36,Tm 38]),Od 40 34 (.call 90 []),Od 41 34 (.call 106 [Tm 39,Tm 40]),Od 42 34 (.bin .eql (Tm 41) (Kz 0)),Ou 43 34 42,Om 2 43]) (.ret)))⟩
theorem low69 : zi Tryz.prog gl0 69 = some lf69 := Go.Abs.lowF (by kernel_rfl)
def lf53 : LFunc := ⟨3,[.cell 0 3 true],.seq (.region [Oa 0 (.newv 3 33 (.cst Zr))]) (.seq (.region [Oa 1 (.call 90 []),Oa 2 (.build Zr [(2,1,(Tm 1))]),Oy 3 0 2]) (.ret))⟩
theorem low53 : zi Tryz.prog gl0 53 = some lf53 := Go.Abs.lowF (by kernel_rfl)
def lf111 : LFunc := ⟨8,[.cell 2 2 true],.seq (.region [Oa 1 (.newv 3 33 (Tm 0)),Oa 2 (.newv 2 113 (.cst (.agg [.p (.bool false),.tight []])))]) (.seq (.region [Oz 3 0 1,Oq 4 1 false 3,Oz 5 1 1,Oq 6 1 false 5,Oa 7 (.build (.agg [.p (.bool false),.tight []]) [(0,1,(Tm 4)),(1,1,(Tm 6))]),Oy 2 2 7]) (.ret))⟩
theorem low111 : zi Tryz.prog gl0 111 = some lf111 := Go.Abs.lowF (by kernel_rfl)
def lf116 : LFunc := ⟨6,[.cell 2 2 true],.seq (.region [Oa 1 (.newv 3 33 (Tm 0)),Oa 2 (.newv 2 113 (.cst (.agg [.p (.bool false),.tight []])))]) (.seq (.region [Oz 3 2 1,Oq 4 1 false 3,Oa 5 (.build (.agg [.p (.bool false),.tight []]) [(1,1,(Tm 4))]),Oy 2 2 5]) (.ret))⟩
theorem low116 : zi Tryz.prog gl0 116 = some lf116 := Go.Abs.lowF (by kernel_rfl)
def lf108 : LFunc := ⟨48,[.cell 6 3 true,.slot 7],.seq (.region [Oa 6 (.newv 3 33 (.cst Zr)),Oa 7 (.mov (Kz 0))]) (.seq (.seq (.region [Om 9 1,Om 10 2,Oa 11 (.call 107 [Tm 9,Tm 10]),Om 8 11]) (.seq (.region [Om 12 8,Oa 13 (.call 90 []),Oa 14 (.call 106 [Tm 12,Tm 13]),Oa 15 (.bin .neq (Tm 14) (Kz 0))]) (.cond (Tm 15) (.seq (.region [Om 17 1,Om 18 8,Oa 19 (.call 137 [Tm 17,Tm 18]),Om 16 19,Ox 20 16 0,Ox 21 16 1,Om 1 20]) (.region [Om 23 2,Om 24 8,Oa 25 (.call 137 [Tm 23,Tm 24]),Om 22 25,Ox 26 22 0,Ox 27 22 1,Om 2 26])) (.skip)))) (.seq (.seq (.region [Om 28 1,Oa 29 (.len (Tm 28)),Oa 30 (.bin .gtr (Tm 29) (Kz 64)),Om 31 30,Oo 32 31 2,Od 33 31 (.len (Tm 32)),Od 34 31 (.bin .gtr (Tm 33) (Kz 64)),Ou 35 31 34]) (.cond (Tm 35) (.seq (.region [Oa 36 (.build Zr []),Oy 3 6 36,Oa 7 (.mov (Kz 4))]) (.ret)) (.skip))) (.seq (.region [Om 37 0,Om 38 37,Oj 39 38 1,Oc 40 38 (.len (Tm 39)),Oc 41 38 (.bin .gtr (Tm 40) (Kz 0)),Ot 42 38 41,Om 43 1,Oa 44 (.call 117 [Tm 43]),Om 45 2,Oa 46 (.call 117 [Tm 45]),Oa 47 (.build Zr [(0,1,(Tm 42)),(1,1,(Tm 44)),(2,1,(Tm 46))]),Oy 3 6 47,Oa 7 (.mov (Kz 0))]) (.ret))))⟩
theorem low108 : zi Tryz.prog gl0 108 = some lf108 := Go.Abs.lowF (by kernel_rfl)
def lf72 : LFunc := ⟨33,[.cell 4 3 true,.slot 5],.seq (.region [Oa 2 (.newv 2 113 (Tm 0)),Oa 3 (.newv 2 113 (Tm 1)),Oa 4 (.newv 3 33 (.cst Zr)),Oa 5 (.mov (Kz 0))]) (.seq (.seq (.region [Oq 6 2 true 2,Oa 7 (.call 112 [Tm 6]),Oa 8 (.un .not (Tm 7)),Om 9 8,Od 10 9 (.load 2 true (Tm 3)),Od 11 9 (.call 112 [Tm 10]),Od 12 9 (.un .not (Tm 11)),Ou 13 9 12,Om 14 13,Od 15 14 (.fadr 1 (Tm 3)),Od 16 14 (.load 1 false (Tm 15)),Od 17 14 (.len (Tm 16)),Od 18 14 (.bin .eql (Tm 17) (Kz 0)),Ou 19 14 18]) (.cond (Tm 19) (.seq (.region [Oa 20 (.build Zr []),Oy 3 4 20,Oa 5 (.mov (Kz 1))]) (.ret)) (.skip))) (.seq (.region [Oz 21 0 2,Oq 22 1 false 21,Oz 23 0 3,Oq 24 1 false 23,Oa 25 (.eqB true (Tm 22) (Tm 24)),Oz 26 1 2,Oq 27 1 false 26,Oz 28 1 3,Oq 29 1 false 28,Oa 30 (.call 108 [Tm 25,Tm 27,Tm 29]),Ox 31 30 0,Ox 32 30 1,Oy 3 4 31,Om 5 32]) (.ret)))⟩
theorem low72 : zi Tryz.prog gl0 72 = some lf72 := Go.Abs.lowF (by kernel_rfl)
def lf43 : LFunc := ⟨19,[.cell 4 3 true],.seq (.region [Oa 4 (.newv 3 33 (.cst Zr))]) (.seq (.seq (.region [Om 7 1,Oa 8 (.bin .eql (Tm 7) (Kz 0))]) (.cond (Tm 8) (.seq (.region [Oa 9 (.call 53 []),Oy 3 4 9]) (.ret)) (.skip))) (.seq (.region [Om 11 0,Oa 12 (.call 73 [Tm 11]),Om 13 1,Oa 14 (.call 73 [Tm 13]),Oa 15 (.call 72 [Tm 12,Tm 14]),Om 10 15,Ox 16 10 0,Ox 17 10 1,Oa 5 (.newv 3 33 (.cst Zr)),Oy 3 5 16,Om 6 17]) (.seq (.region [Oq 18 3 true 5,Oy 3 4 18]) (.ret))))⟩
theorem low43 : zi Tryz.prog gl0 43 = some lf43 := Go.Abs.lowF (by kernel_rfl)
def lf71 : LFunc := ⟨9,[.slot 2],.seq (.region [Oa 1 (.newv 3 33 (Tm 0)),Oa 2 (.mov (Kz 0))]) (.seq (.seq (.region [Oq 3 3 true 1,Oa 4 (.call 69 [Tm 3]),Oa 5 (.un .not (Tm 4))]) (.cond (Tm 5) (.seq (.region [Oa 2 (.mov (Kz 0))]) (.ret)) (.skip))) (.seq (.region [Oq 6 3 true 1,Oa 7 (.call 111 [Tm 6]),Oa 8 (.call 110 [Tm 7]),Om 2 8]) (.ret)))⟩
theorem low71 : zi Tryz.prog gl0 71 = some lf71 := Go.Abs.lowF (by kernel_rfl)
def lf118 : LFunc := ⟨23,[.cell 2 3 true],.seq (.region [Oa 1 (.newv 3 33 (Tm 0)),Oa 2 (.newv 3 33 (.cst Zr))]) (.seq (.seq (.region [Oq 3 3 true 1,Oa 4 (.call 69 [Tm 3]),Oa 5 (.un .not (Tm 4))]) (.cond (Tm 5) (.seq (.region [Oa 6 (.build Zr []),Oy 3 2 6]) (.ret)) (.skip))) (.seq (.regionW [(Oz 7 0 1,.f),(Oq 8 1 false 7,.f),(Oa 9 (.un .not (Tm 8)),.f),(Om 10 9,.f),(Oc 11 10 (.fadr 1 (Tm 1)),.s),(Oc 12 10 (.load 1 false (Tm 11)),.s),(Oc 13 10 (.len (Tm 12)),.s),(Oc 14 10 (.bin .gtr (Tm 13) (Kz 0)),.f),(Ot 15 10 14,.f),(Oz 16 1 1,.f),(Oq 17 1 false 16,.f),(Oa 18 (.call 117 [Tm 17]),.s),(Oz 19 2 1,.s),(Oq 20 1 false 19,.s),(Oa 21 (.call 117 [Tm 20]),.s),(Oa 22 (.build Zr [(0,1,(Tm 15)),(1,1,(Tm 18)),(2,1,(Tm 21))]),.f),(Oy 3 2 22,.f)]) (.ret)))⟩
theorem low118 : zi Tryz.prog gl0 118 = some lf118 := Go.Abs.lowF (by kernel_rfl)
def lf74 : LFunc := ⟨39,[.cell 4 3 true,.slot 5],.seq (.region [Oa 2 (.newv 3 33 (Tm 0)),Oa 3 (.newv 3 33 (Tm 1)),Oa 4 (.newv 3 33 (.cst Zr)),Oa 5 (.mov (Kz 0))]) (.seq (.seq (.region [Oq 7 3 true 2,Oa 8 (.call 69 [Tm 7]),Oa 9 (.un .not (Tm 8)),Om 10 9,Od 11 10 (.load 3 true (Tm 3)),Od 12 10 (.call 69 [Tm 11]),Od 13 10 (.un .not (Tm 12)),Ou 14 10 13]) (.cond (Tm 14) (.seq (.region [Oa 15 (.build Zr []),Oy 3 4 15,Oa 5 (.mov (Kz 1))]) (.ret)) (.skip))) (.seq (.regionW [(Oq 16 3 true 2,.s),(Oa 17 (.call 111 [Tm 16]),.t),(Oq 18 3 true 3,.s),(Oa 19 (.call 116 [Tm 18]),.t),(Oa 20 (.call 115 [Tm 17,Tm 19]),.t),(Oq 21 3 true 3,.s),(Oa 22 (.call 111 [Tm 21]),.t),(Oq 23 3 true 2,.s),(Oa 24 (.call 116 [Tm 23]),.t),(Oa 25 (.call 115 [Tm 22,Tm 24]),.t),(Oa 26 (.call 114 [Tm 20,Tm 25]),.t),(Oa 6 (.newv 2 113 (.cst (.agg [.p (.bool false),.tight []]))),.s),(Oy 2 6 26,.f)]) (.seq (.regionW [(Oz 27 0 6,.s),(Oq 28 1 false 27,.s),(Oz 29 1 6,.s),(Oq 30 1 false 29,.s),(Oz 31 2 2,.f),(Oq 32 1 false 31,.f),(Oz 33 2 3,.f),(Oq 34 1 false 33,.f),(Oa 35 (.call 109 [Tm 32,Tm 34]),.s),(Oa 36 (.call 108 [Tm 28,Tm 30,Tm 35]),.f),(Ox 37 36 0,.f),(Ox 38 36 1,.f),(Oy 3 4 37,.f),(Om 5 38,.f)]) (.ret))))⟩
theorem low74 : zi Tryz.prog gl0 74 = some lf74 := Go.Abs.lowF (by kernel_rfl)
def lf70 : LFunc := ⟨33,[.cell 4 3 true,.slot 5],.seq (.region [Oa 2 (.newv 3 33 (Tm 0)),Oa 3 (.newv 3 33 (Tm 1)),Oa 4 (.newv 3 33 (.cst Zr)),Oa 5 (.mov (Kz 0))]) (.seq (.seq (.region [Oq 6 3 true 2,Oa 7 (.call 69 [Tm 6]),Oa 8 (.un .not (Tm 7)),Om 9 8,Od 10 9 (.load 3 true (Tm 3)),Od 11 9 (.call 69 [Tm 10]),Od 12 9 (.un .not (Tm 11)),Ou 13 9 12]) (.cond (Tm 13) (.seq (.region [Oa 14 (.build Zr []),Oy 3 4 14,Oa 5 (.mov (Kz 1))]) (.ret)) (.skip))) (.seq (.regionW [(Oz 15 0 2,.s),(Oq 16 1 false 15,.s),(Oz 17 0 3,.s),(Oq 18 1 false 17,.s),(Oa 19 (.eqB true (Tm 16) (Tm 18)),.f),(Oz 20 1 2,.f),(Oq 21 1 false 20,.f),(Oz 22 1 3,.f),(Oq 23 1 false 22,.f),(Oa 24 (.call 109 [Tm 21,Tm 23]),.s),(Oz 25 2 2,.s),(Oq 26 1 false 25,.s),(Oz 27 2 3,.s),(Oq 28 1 false 27,.s),(Oa 29 (.call 109 [Tm 26,Tm 28]),.s),(Oa 30 (.call 108 [Tm 19,Tm 24,Tm 29]),.f),(Ox 31 30 0,.f),(Ox 32 30 1,.f),(Oy 3 4 31,.f),(Om 5 32,.f)]) (.ret)))⟩
theorem low70 : zi Tryz.prog gl0 70 = some lf70 := Go.Abs.lowF (by kernel_rfl)
def lf79 : LFunc := ⟨39,[.cell 4 3 true,.slot 5],.seq (.region [Oa 2 (.newv 3 33 (Tm 0)),Oa 3 (.newv 3 33 (Tm 1)),Oa 4 (.newv 3 33 (.cst Zr)),Oa 5 (.mov (Kz 0))]) (.seq (.seq (.region [Oq 6 3 true 2,Oa 7 (.call 69 [Tm 6]),Oa 8 (.un .not (Tm 7)),Om 9 8,Od 10 9 (.load 3 true (Tm 3)),Od 11 9 (.call 69 [Tm 10]),Od 12 9 (.un .not (Tm 11)),Ou 13 9 12,Om 14 13,Od 15 14 (.fadr 1 (Tm 3)),Od 16 14 (.load 1 false (Tm 15)),Od 17 14 (.len (Tm 16)),Od 18 14 (.bin .eql (Tm 17) (Kz 0)),Ou 19 14 18]) (.cond (Tm 19) (.seq (.region [Oa 20 (.build Zr []),Oy 3 4 20,Oa 5 (.mov (Kz 1))]) (.ret)) (.skip))) (.seq (.regionW [(Oz 21 0 2,.s),(Oq 22 1 false 21,.s),(Oz 23 0 3,.s),(Oq 24 1 false 23,.s),(Oa 25 (.eqB true (Tm 22) (Tm 24)),.f),(Oz 26 1 2,.f),(Oq 27 1 false 26,.f),(Oz 28 2 3,.f),(Oq 29 1 false 28,.f),(Oa 30 (.call 109 [Tm 27,Tm 29]),.s),(Oz 31 2 2,.s),(Oq 32 1 false 31,.s),(Oz 33 1 3,.s),(Oq 34 1 false 33,.s),(Oa 35 (.call 109 [Tm 32,Tm 34]),.s),(Oa 36 (.call 108 [Tm 25,Tm 30,Tm 35]),.f),(Ox 37 36 0,.f),(Ox 38 36 1,.f),(Oy 3 4 37,.f),(Om 5 38,.f)]) (.ret)))⟩
theorem low79 : zi Tryz.prog gl0 79 = some lf79 := Go.Abs.lowF (by kernel_rfl)
end Go.Proofs.YtgbjjikaenlkmaaGreat

namespace Go.Proofs.YtgbjjikaenlkmaaGreat
open Go Go.Abs Go.Limbs
set_option maxRecDepth 20000
structure Fr where
 s : Bool
 n : List Nat
 d : List Nat
def Fr.wf (x : Fr) : Prop := Wf x.n ∧ Wf x.d
def Fr.enc (x : Fr) : PVal := .agg [.bool x.s, .lst (x.n.map u64), .lst (x.d.map u64)]
def sP : PVal → Option Fr
 | .agg [.bool s, .lst xs, .lst ys] => match jz xs, jz ys with | some l, some m => some ⟨s, l, m⟩ | _, _ => none
 | _ => none
theorem bG {x : Fr} (h : x.wf) : sP x.enc = some x := by simp only [sP, Fr.enc, zY h.1, zY h.2]
theorem uW {v : PVal} {x : Fr} (h : sP v = some x) : v = x.enc ∧ x.wf := by
 unfold sP at h
 split at h
 ·rename_i s xs ys
  split at h
  ·rename_i l m hl hm
   cases h
   obtain ⟨rfl, wl⟩ := zI hl
   obtain ⟨rfl, wm⟩ := zI hm
   exact ⟨rfl, wl, wm⟩
  ·cases h
 ·cases h
def Fr.ok (x : Fr) : Bool := okL x.n && okL x.d && decide (val x.d ≠ 0) && (!x.s || decide (val x.n ≠ 0)) && (Nat.gcd (val x.n) (val x.d) == 1)
def Fr.q (x : Fr) : Rat := mkRat (zOf x.s (val x.n)) (val x.d)
def ofQ (q : Rat) : Fr := ⟨decide (q.num < 0), zc q.num.natAbs, zc q.den⟩
def zF : Fr := ⟨false, [], []⟩
def Sm (k : Nat) (q : Rat) : Prop := len q.num.natAbs ≤ k ∧ len q.den ≤ k
instance (k : Nat) (q : Rat) : Decidable (Sm k q) := inferInstanceAs (Decidable (_ ∧ _))
theorem kF (q : Rat) : (ofQ q).wf := ⟨zC _, zC _⟩
theorem dD : zF.wf := ⟨Wf.nil, Wf.nil⟩
theorem ct (q : Rat) : (ofQ q).q = q := by
 unfold Fr.q ofQ
 simp only [zx, vJ, Rat.mkRat_self]
theorem fW {s : Bool} {a : Nat} (h : s = true → a ≠ 0) : s = decide (zOf s a < 0) := by
 cases s with
 | false => simp [zOf]
 | true => have := h rfl; simp [zOf]; omega
theorem Fr.ok_of {x : Fr} (h : x.ok = true) : ∃ q : Rat, Sm 64 q ∧ x = ofQ q := by
 obtain ⟨s, n, d⟩ := x
 unfold Fr.ok at h
 simp only [Bool.and_eq_true, Bool.or_eq_true, Bool.not_eq_true', decide_eq_true_eq, beq_iff_eq] at h
 obtain ⟨⟨⟨⟨h1, h2⟩, h3⟩, h4⟩, h5⟩ := h
 obtain ⟨a, rfl, ha⟩ := bp h1
 obtain ⟨b, rfl, hb⟩ := bp h2
 rw [zx] at h3 h4
 rw [zx, zx] at h5
 have hs : s = true → a ≠ 0 := fun e => by
  rcases h4 with h | h
  ·rw [e] at h; cases h
  ·exact h
 refine ⟨⟨zOf s a, b, h3, by rw [wX]; exact h5⟩, ⟨by show len (zOf s a).natAbs ≤ 64; rw [wX]; exact ha, hb⟩, ?_⟩
 unfold ofQ
 simp only [wX]
 rw [← fW hs]
theorem yA {q : Rat} (h : Sm 64 q) : (ofQ q).ok = true := by
 unfold Fr.ok ofQ
 simp only [zx, hU h.1, hU h.2, Bool.true_and, Bool.and_true, Bool.and_eq_true, Bool.or_eq_true, Bool.not_eq_true', decide_eq_true_eq, decide_eq_false_iff_not, beq_iff_eq]
 refine ⟨⟨q.den_nz, ?_⟩, q.reduced⟩
 by_cases hn : q.num < 0
 ·exact .inr (by omega)
 ·exact .inl hn
theorem lm (s : Bool) (a : Nat) {b : Nat} (hb : b ≠ 0) : (mkRat (zOf s a) b).num = zOf s (a / Nat.gcd a b) := by
 rw [Rat.num_mkRat, if_neg hb, wX, Nat.gcd_comm]
 have hd : ((Nat.gcd a b : Nat) : Int) ∣ (a : Int) := Int.natCast_dvd_natCast.2 (Nat.gcd_dvd_left a b)
 cases s with
 | false => simp [zOf]
 | true =>
  simp only [zOf, if_true]
  rw [Int.neg_ediv_of_dvd hd, Int.natCast_ediv]
theorem lp (s : Bool) (a : Nat) {b : Nat} (hb : b ≠ 0) : (mkRat (zOf s a) b).den = b / Nat.gcd a b := by
 rw [Rat.den_mkRat, if_neg hb, wX, Nat.gcd_comm]
theorem ofQ_mk (s : Bool) (a : Nat) {b : Nat} (hb : b ≠ 0) : ofQ (mkRat (zOf s a) b) = ⟨s && decide (0 < (zc (a / Nat.gcd a b)).length), zc (a / Nat.gcd a b), zc (b / Nat.gcd a b)⟩ := by
 unfold ofQ
 rw [lm s a hb, lp s a hb, wX]
 congr 1
 obtain ⟨m, hm⟩ : ∃ m, m = a / Nat.gcd a b := ⟨_, rfl⟩
 rw [← hm]
 by_cases h : m = 0
 ·subst h
  cases s <;> simp [zOf, zy]
 ·have hl : 0 < (zc m).length := by
   have : (zc m).length ≠ 0 := fun e => h (qc.1 e)
   omega
  rw [decide_eq_true hl, Bool.and_true, ← fW fun _ => h]
def ww (q : Rat) : Fr × Nat := if Sm 64 q then (ofQ q, 0) else (zF, 4)
theorem bB {q : Rat} (h : Sm 64 q) : ww q = (ofQ q, 0) := if_pos h
theorem po (q : Rat) : (ww q).1.wf := by
 unfold ww
 split
 ·exact kF q
 ·exact dD
theorem heldQ_mk (s : Bool) (a : Nat) {b : Nat} (hb : b ≠ 0) : ww (mkRat (zOf s a) b) = if len (a / Nat.gcd a b) ≤ 64 ∧ len (b / Nat.gcd a b) ≤ 64 then (⟨s && decide (0 < (zc (a / Nat.gcd a b)).length), zc (a / Nat.gcd a b), zc (b / Nat.gcd a b)⟩, 0) else (zF, 4) := by
 have e : Sm 64 (mkRat (zOf s a) b) ↔ len (a / Nat.gcd a b) ≤ 64 ∧ len (b / Nat.gcd a b) ≤ 64 := by
  unfold Sm
  rw [lm s a hb, lp s a hb, wX]
 unfold ww
 by_cases h : Sm 64 (mkRat (zOf s a) b)
 ·rw [if_pos h, if_pos (e.1 h), ofQ_mk s a hb]
 ·rw [if_neg h, if_neg fun hh => h (e.2 hh)]
theorem add_mk (p q : Rat) : mkRat (p.num * q.den + q.num * p.den) (p.den * q.den) = p + q := by
 have := Rat.mkRat_add_mkRat p.num q.num p.den_nz q.den_nz
 rw [Rat.mkRat_self, Rat.mkRat_self] at this
 exact this.symm
theorem mul_mk (p q : Rat) : mkRat (p.num * q.num) (p.den * q.den) = p * q := by
 have := Rat.mkRat_mul_mkRat p.num q.num p.den q.den
 rw [Rat.mkRat_self, Rat.mkRat_self] at this
 exact this.symm
theorem lO {x p q : Rat} (hq : q ≠ 0) (h : x * q = p) : x = p / q := by
 rw [← h, Rat.div_def, Rat.mul_assoc, Rat.mul_inv_cancel q hq, Rat.mul_one]
theorem quo_mk (p : Rat) {q : Rat} (hq : q ≠ 0) : mkRat (zOf (decide (p.num < 0) != decide (q.num < 0)) (p.num.natAbs * q.den)) (p.den * q.num.natAbs) = p / q := by
 have hn : q.num ≠ 0 := fun e => hq (Rat.num_eq_zero.1 e)
 refine lO hq ?_
 have h := Rat.mkRat_mul_mkRat (zOf (decide (p.num < 0) != decide (q.num < 0)) (p.num.natAbs * q.den)) q.num (p.den * q.num.natAbs) q.den
 rw [Rat.mkRat_self] at h
 rw [h]
 conv => rhs; rw [← Rat.mkRat_self p]
 have hD : p.den * q.num.natAbs * q.den ≠ 0 := Nat.mul_ne_zero (Nat.mul_ne_zero p.den_nz (by omega)) q.den_nz
 rw [Rat.mkRat_eq_iff hD p.den_nz]
 have e1 := vJ p.num
 have e2 := vJ q.num
 obtain ⟨a, ha⟩ : ∃ a, a = p.num.natAbs := ⟨_, rfl⟩
 obtain ⟨b, hb⟩ : ∃ b, b = q.num.natAbs := ⟨_, rfl⟩
 obtain ⟨s, hs⟩ : ∃ s, s = decide (p.num < 0) := ⟨_, rfl⟩
 obtain ⟨t, ht⟩ : ∃ t, t = decide (q.num < 0) := ⟨_, rfl⟩
 rw [← ha, ← hs] at e1
 rw [← hb, ← ht] at e2
 rw [← ha, ← hb, ← hs, ← ht, ← e1, ← e2]
 generalize q.den = u
 generalize p.den = v
 clear e1 e2 ha hb hs ht
 cases s <;> cases t <;> simp [zOf] <;> grind
theorem ofQ_neg (q : Rat) : ofQ (-q) = ⟨!decide (q.num < 0) && decide (0 < (zc q.num.natAbs).length), zc q.num.natAbs, zc q.den⟩ := by
 unfold ofQ
 rw [Rat.neg_num, Rat.neg_den, Int.natAbs_neg]
 congr 1
 by_cases h : q.num = 0
 ·rw [h]; simp [zy]
 ·have hl : 0 < (zc q.num.natAbs).length := by
   have : (zc q.num.natAbs).length ≠ 0 := fun e => h (by have := qc.1 e; omega)
   omega
  rw [decide_eq_true hl, Bool.and_true]
  by_cases h2 : q.num < 0
  ·simp [h2]; omega
  ·simp [h2]; omega
theorem Sm_neg {k : Nat} {q : Rat} (h : Sm k q) : Sm k (-q) := by
 unfold Sm at *
 rw [Rat.neg_num, Rat.neg_den, Int.natAbs_neg]
 exact h
def gC (p q : Rat) : Int := gB (p.num * q.den) (q.num * p.den)
theorem nX {p q : Rat} (h : p < q) : gC p q = -1 := by
 unfold gC gB
 rw [if_pos ((Rat.lt_iff p q).1 h)]
theorem cmpQ_eq (p : Rat) : gC p p = 0 := by
 unfold gC gB
 rw [if_neg (by omega), if_pos rfl]
theorem nY {p q : Rat} (h : q < p) : gC p q = 1 := by
 have h' := (Rat.lt_iff q p).1 h
 unfold gC gB
 rw [if_neg (by omega), if_neg (by omega)]
theorem xA (p q : Rat) : p < q ∨ p = q ∨ q < p := by
 by_cases h : q ≤ p
 ·by_cases h2 : p ≤ q
  ·exact .inr (.inl (Rat.le_antisymm h2 h))
  ·exact .inr (.inr (Rat.not_le.1 h2))
 ·exact .inl (Rat.not_le.1 h)
theorem lt_irr (p : Rat) : ¬ p < p := fun h => absurd ((Rat.lt_iff p p).1 h) (by omega)
theorem cC {p q : Rat} : gC p q = 0 ↔ p = q := by
 rcases xA p q with h | h | h
 ·rw [nX h]; simp; rintro rfl; exact lt_irr _ h
 ·subst h; rw [cmpQ_eq]; simp
 ·rw [nY h]; simp; rintro rfl; exact lt_irr _ h
theorem cmpQ_case (p q : Rat) : gC p q = -1 ∨ gC p q = 0 ∨ gC p q = 1 := by
 rcases xA p q with h | h | h
 ·exact .inl (nX h)
 ·subst h; exact .inr (.inl (cmpQ_eq p))
 ·exact .inr (.inr (nY h))
def j6 (x y : Fr) : Fr × Nat := if x.ok && y.ok then ww (x.q + y.q) else (zF, 1)
def uD (x y : Fr) : Fr × Nat := if x.ok && y.ok then ww (x.q * y.q) else (zF, 1)
def cj (x y : Fr) : Fr × Nat := if x.ok && y.ok && decide (y.q ≠ 0) then ww (x.q / y.q) else (zF, 1)
def z9 (x : Fr) : Int := if x.ok then gC x.q 0 else 0
def hZ (x : Fr) : Fr := if x.ok then ofQ (-x.q) else zF
theorem aG {p q : Rat} (hp : Sm 64 p) (hq : Sm 64 q) : j6 (ofQ p) (ofQ q) = ww (p + q) := by unfold j6; rw [yA hp, yA hq, ct, ct]; rfl
theorem mulF_num {p q : Rat} (hp : Sm 64 p) (hq : Sm 64 q) : uD (ofQ p) (ofQ q) = ww (p * q) := by unfold uD; rw [yA hp, yA hq, ct, ct]; rfl
theorem quoF_num {p q : Rat} (hp : Sm 64 p) (hq : Sm 64 q) (h0 : q ≠ 0) : cj (ofQ p) (ofQ q) = ww (p / q) := by unfold cj; rw [yA hp, yA hq, ct, ct]; simp [h0]
theorem uL {p : Rat} (hp : Sm 64 p) : z9 (ofQ p) = gC p 0 := by unfold z9; rw [yA hp, ct]; rfl
theorem o9 {p : Rat} (hp : Sm 64 p) : hZ (ofQ p) = ofQ (-p) := by unfold hZ; rw [yA hp, ct]; rfl
theorem xd (x y : Fr) : (j6 x y).1.wf := by unfold j6; split; exact po _; exact dD
theorem nL (x y : Fr) : (uD x y).1.wf := by unfold uD; split; exact po _; exact dD
theorem wf_quoF (x y : Fr) : (cj x y).1.wf := by unfold cj; split; exact po _; exact dD
theorem zaj (x : Fr) : (hZ x).wf := by unfold hZ; split; exact kF _; exact dD
def qa (p : Fr × Nat) : PVal := .tup [p.1.enc, .int .i64 p.2]
def uZ (x : Fr) : PVal := .bool x.ok
def f1 (g : Fr → PVal) : List PVal → Option PVal
 | [a] => match sP a with | some x => some (g x) | none => none
 | _ => none
def f2 (g : Fr → Fr → PVal) : List PVal → Option PVal
 | [a, b] => match sP a, sP b with | some x, some y => some (g x y) | _, _ => none
 | _ => none
theorem kZ {g : Fr → PVal} {x : Fr} (h : x.wf) : f1 g [x.enc] = some (g x) := by simp only [f1, bG h]
theorem eM {g : Fr → Fr → PVal} {x y : Fr} (hx : x.wf) (hy : y.wf) : f2 g [x.enc, y.enc] = some (g x y) := by simp only [f2, bG hx, bG hy]
theorem gp {g : Fr → PVal} {args : List PVal} {z : PVal} (h : f1 g args = some z) : ∃ x : Fr, x.wf ∧ args = [x.enc] ∧ z = g x := by
 unfold f1 at h
 split at h
 ·split at h
  ·rename_i x hx
   cases h
   obtain ⟨rfl, w⟩ := uW hx
   exact ⟨x, w, rfl, rfl⟩
  ·cases h
 ·cases h
theorem gn {g : Fr → Fr → PVal} {args : List PVal} {z : PVal} (h : f2 g args = some z) : ∃ x y : Fr, x.wf ∧ y.wf ∧ args = [x.enc, y.enc] ∧ z = g x y := by
 unfold f2 at h
 split at h
 ·split at h
  ·rename_i x y hx hy
   cases h
   obtain ⟨rfl, wx⟩ := uW hx
   obtain ⟨rfl, wy⟩ := uW hy
   exact ⟨x, y, wx, wy, rfl, rfl⟩
  ·cases h
 ·cases h
theorem Sm_mono {j k : Nat} {q : Rat} (h : Sm j q) (hjk : j ≤ k) : Sm k q := ⟨Nat.le_trans h.1 hjk, Nat.le_trans h.2 hjk⟩
theorem Sm_mk {k : Nat} {z : Int} {d : Nat} (hz : len z.natAbs ≤ k) (hd : len d ≤ k) (h0 : d ≠ 0) : Sm k (mkRat z d) := by
 have h := vJ z
 rw [← h]
 unfold Sm
 rw [lm _ _ h0, lp _ _ h0, wX]
 exact ⟨Nat.le_trans (qu (Nat.div_le_self _ _)) hz, Nat.le_trans (qu (Nat.div_le_self _ _)) hd⟩
theorem nU : len 1 = 1 := by rw [len, j2 (by decide) (by decide)]; rfl
end Go.Proofs.YtgbjjikaenlkmaaGreat

namespace Go.Proofs.YtgbjjikaenlkmaaGreat
open Go Go.Abs Go.Limbs
variable {base : Prot}
set_option maxRecDepth 20000
attribute [local irreducible] vc
attribute [local simp] za zh freezeL fuel zk u64 au
theorem mf : zc 1 = [1] := j2 (by decide) (by decide)
theorem cm (n : Nat) : (zc n).length = len n := rfl
theorem ga {n : Nat} (h : n ≠ 0) : ((len n : Int) == 0) = false := beq_false_of_ne (by have : len n ≠ 0 := fun e => h (qc.1 e); omega)
theorem rZ {n : Nat} : (qW n 1 == 0) = decide (n = 1) := by
 unfold qW
 by_cases h : n < 1
 ·rw [if_pos h]; simp; omega
 ·rw [if_neg h]
  by_cases h2 : n = 1
  ·rw [if_pos h2]; simp [h2]
  ·rw [if_neg h2]; simp [h2]
theorem cO {n : Nat} (h : len n ≤ 100000) : wS [.lst ((zc n).map u64), .lst [.int .u64 1]] = some (.int .i64 (qW n 1)) := by
 have := kP (a := n) (b := 1) h (by rw [nU]; omega)
 rw [mf] at this
 exact this
def xq : List PVal → Option PVal
 | [] => some (.lst [.int .u64 1])
 | _ => none
theorem pL : xq [] = some (.lst [.int .u64 1]) := rfl
def Tqo : Tab := Tab.none.with 113 (za sOf)
theorem Tqo_ok : TabOk Tryz.prog base Tqo := Tab.with_ok Tab.none_ok of_ok
theorem Tqo_mu (f : FuncId) (a : List AVal) (H : zb) : Tqo.mu f a H = none := (rfl)
theorem Tqo_fn : Tqo.fn 113 = za sOf := (rfl)
theorem sOf_one : sOf [.int .i64 1] = some (.lst [.int .u64 1]) := by
 have h : sOf [.int .i64 1] = some (.lst ((ofL 1).map u64)) := rfl
 rw [ofL_num (by decide) (by decide)] at h
 rw [h, show Int.natAbs 1 = 1 from rfl, mf]
 rfl
theorem xC : zH Tryz.prog base 90 (za xq) := by
 refine zd zE Tqo_ok ze low90 fun args z hs hf => ?_
 unfold xq at hs
 split at hs
 case h_2 => cases hs
 cases hs
 refine ⟨by simp [lf90], ?_⟩
 have h1 := sOf_one
 simp [lf90, h1, Tqo_mu, Tqo_fn]
def yo : List PVal → Option PVal
 | [] => some (ofQ 0).enc
 | _ => none
theorem cM : yo [] = some (ofQ 0).enc := rfl
theorem oX : ofQ 0 = ⟨false, [], [1]⟩ := by
 unfold ofQ
 rw [Rat.zero_num, Rat.zero_den, mf]
 simp [zy]
def Tq1 : Tab := Tab.none.with 90 (za xq)
theorem Tq1_ok : TabOk Tryz.prog base Tq1 := Tab.with_ok Tab.none_ok xC
theorem Tq1_mu (f : FuncId) (a : List AVal) (H : zb) : Tq1.mu f a H = none := (rfl)
theorem Tq1_fn : Tq1.fn 90 = za xq := (rfl)
theorem p8 : zH Tryz.prog base 53 (za yo) := by
 refine zd zE Tq1_ok ze low53 fun args z hs hf => ?_
 unfold yo at hs
 split at hs
 case h_2 => cases hs
 cases hs
 refine ⟨by simp [lf53], ?_⟩
 have h1 := pL
 rw [oX]
 simp [lf53, h1, Fr.enc, Tq1_mu, Tq1_fn]
def numF (x : Fr) : PVal := iP x.s x.n
def denF (x : Fr) : PVal := iP false x.d
theorem qnum_ok : zH Tryz.prog base 111 (za (f1 numF)) := by
 refine zd zE Tab.none_ok ze low111 fun args z hs hf => ?_
 obtain ⟨x, wx, rfl, rfl⟩ := gp hs
 refine ⟨by simp [lf111], ?_⟩
 simp [lf111, Fr.enc, numF, iP]
theorem qden_ok : zH Tryz.prog base 116 (za (f1 denF)) := by
 refine zd zE Tab.none_ok ze low116 fun args z hs hf => ?_
 obtain ⟨x, wx, rfl, rfl⟩ := gp hs
 refine ⟨by simp [lf116], ?_⟩
 simp [lf116, Fr.enc, denF, iP]
def Tqv : Tab := (((Tab.none.with 90 (za xq)).with 105 (za jE)).with 106 (za wS)).with 107 (za kv)
theorem Tqv_ok : TabOk Tryz.prog base Tqv := Tab.with_ok (Tab.with_ok (Tab.with_ok (Tab.with_ok Tab.none_ok xC) pt) bo) mq
theorem bM (f : FuncId) (a : List AVal) (H : zb) : Tqv.mu f a H = none := (rfl)
theorem ux : Tqv.fn 90 = za xq ∧ Tqv.fn 105 = za jE ∧ Tqv.fn 106 = za wS ∧ Tqv.fn 107 = za kv := ⟨rfl, rfl, rfl, rfl⟩
theorem gU : zH Tryz.prog base 69 (za (f1 uZ)) := by
 refine zd zE Tqv_ok ze low69 fun args z hs hf => ?_
 obtain ⟨x, wx, rfl, rfl⟩ := gp hs
 obtain ⟨s, n, d⟩ := x
 obtain ⟨wn, wd⟩ := wx
 simp only at wn wd
 refine ⟨by simp [lf69], ?_⟩
 have v1 := uf wn
 have v2 := uf wd
 have ho := pL
 simp only [Fr.enc, uZ, Fr.ok]
 cases o1 : okL n with
 | false => rw [o1] at v1; simp [lf69, v1, bM, ux]
 | true =>
  rw [o1] at v1
  cases o2 : okL d with
  | false => rw [o2] at v2; simp [lf69, v1, v2, bM, ux]
  | true =>
   rw [o2] at v2
   obtain ⟨a, rfl, ha⟩ := bp o1
   obtain ⟨b, rfl, hb⟩ := bp o2
   rw [zx, zx]
   by_cases b0 : b = 0
   ·subst b0
    rw [zy] at v2 ⊢
    simp only [List.map_nil] at v2 ⊢
    simp [lf69, v1, v2, bM, ux]
   ·have lb := ga b0
    have c1 := cO (n := b) (by omega)
    have c2 := mP (a := a) (b := b) (by omega) (by omega)
    have hg : len (Nat.gcd a b) ≤ 100000 := Nat.le_trans (qu (Nat.gcd_le_right _ (Nat.pos_of_ne_zero b0))) (by omega)
    have c3 := cO hg
    have g1 : b = 1 → Nat.gcd a b = 1 := fun e => by rw [e, Nat.gcd_one_right]
    obtain ⟨g, hgg⟩ : ∃ g, g = Nat.gcd a b := ⟨_, rfl⟩
    rw [← hgg] at c2 c3 g1 ⊢
    have e1 := rZ (n := b)
    have e2 := rZ (n := g)
    obtain ⟨p, hp⟩ : ∃ p, p = qW b 1 := ⟨_, rfl⟩
    obtain ⟨r, hr⟩ : ∃ p, p = qW g 1 := ⟨_, rfl⟩
    rw [← hp] at c1 e1
    rw [← hr] at c3 e2
    have e2' : (r == 0) = (g == 1) := e2
    have hb0' : decide (b ≠ 0) = true := decide_eq_true b0
    rw [hb0']
    by_cases a0 : a = 0
    ·subst a0
     rw [zy] at v1 c2 ⊢
     simp only [List.map_nil] at v1 c2 ⊢
     cases s with
     | true => simp [lf69, v1, v2, cm, lb, bM, ux]
     | false =>
      by_cases hb1 : b = 1
      ·rw [decide_eq_true hb1] at e1
       have hgb : (g == 1) = true := by rw [g1 hb1]; rfl
       rw [hgb]
       simp [lf69, v1, v2, cm, lb, ho, c1, e1, bM, ux]
      ·rw [decide_eq_false hb1] at e1
       simp [lf69, v1, v2, cm, lb, ho, c1, c2, c3, e1, e2', bM, ux]
    ·have la := ga a0
     by_cases hb1 : b = 1
     ·rw [decide_eq_true hb1] at e1
      have hgb : (g == 1) = true := by rw [g1 hb1]; rfl
      rw [hgb]
      cases s <;> simp [lf69, v1, v2, cm, la, lb, ho, c1, e1, a0, bM, ux]
     ·rw [decide_eq_false hb1] at e1
      cases s <;> simp [lf69, v1, v2, cm, la, lb, ho, c1, c2, c3, e1, e2', a0, bM, ux]
def ow : List PVal → Option PVal
 | [.bool s, .lst xs, .lst ys] => match vq xs, vq ys with | some a, some b => if b ≠ 0 then some (qa (ww (mkRat (zOf s a) b))) else none | _, _ => none
 | _ => none
theorem dT (s : Bool) {a b : Nat} (ha : len a ≤ 100000) (hb : len b ≤ 100000) (h0 : b ≠ 0) : ow [.bool s, .lst ((zc a).map u64), .lst ((zc b).map u64)] = some (qa (ww (mkRat (zOf s a) b))) := by
 simp only [ow, zM ha, zM hb]
 rw [if_pos h0]
def Tlo : Tab := ((((Tab.none.with 90 (za xq)).with 137 (za dR)).with 106 (za wS)).with 107 (za kv)).with 117 (za wU)
theorem Tlo_ok : TabOk Tryz.prog base Tlo := Tab.with_ok (Tab.with_ok (Tab.with_ok (Tab.with_ok (Tab.with_ok Tab.none_ok xC) xB) bo) mq) uX
theorem mA (f : FuncId) (a : List AVal) (H : zb) : Tlo.mu f a H = none := (rfl)
theorem cf : Tlo.fn 90 = za xq ∧ Tlo.fn 137 = za dR ∧ Tlo.fn 106 = za wS ∧ Tlo.fn 107 = za kv ∧ Tlo.fn 117 = za wU := ⟨rfl, rfl, rfl, rfl, rfl⟩
theorem cmpI_ne {n : Nat} : (qW n 1 != 0) = !decide (n = 1) := by rw [← rZ]; rfl
theorem qlow_ok : zH Tryz.prog base 108 (za ow) := by
 refine zd zE Tlo_ok ze low108 fun args z hs hf => ?_
 unfold ow at hs
 split at hs
 case h_2 => cases hs
 rename_i s xs ys
 split at hs
 case h_2 => cases hs
 rename_i a b ha hb
 split at hs
 case isFalse => cases hs
 rename_i h0
 obtain ⟨rfl, hla⟩ := zD ha
 obtain ⟨rfl, hlb⟩ := zD hb
 cases hs
 refine ⟨by simp [lf108], ?_⟩
 rw [heldQ_mk s a h0]
 have c2 := mP hla hlb
 have hgl : len (Nat.gcd a b) ≤ 100000 := Nat.le_trans (qu (Nat.gcd_le_right _ (Nat.pos_of_ne_zero h0))) hlb
 have hg0 : Nat.gcd a b ≠ 0 := fun e => h0 (Nat.gcd_eq_zero_iff.1 e).2
 have c3 := cO hgl
 have e2 := cmpI_ne (n := Nat.gcd a b)
 have ho := pL
 obtain ⟨g, hg⟩ : ∃ g, g = Nat.gcd a b := ⟨_, rfl⟩
 rw [← hg] at c2 c3 e2 hgl hg0 ⊢
 have q1 := gO hla hgl hg0
 have q2 := gO hlb hgl hg0
 obtain ⟨m, hm⟩ : ∃ m, m = a / g := ⟨_, rfl⟩
 obtain ⟨k, hk⟩ : ∃ k, k = b / g := ⟨_, rfl⟩
 have hml : len m ≤ 100000 := by rw [hm]; exact Nat.le_trans (qu (Nat.div_le_self _ _)) hla
 have hkl : len k ≤ 100000 := by rw [hk]; exact Nat.le_trans (qu (Nat.div_le_self _ _)) hlb
 have m1 := jG hml
 have m2 := jG hkl
 rw [← hm, ← hk]
 rw [← hm] at q1
 rw [← hk] at q2
 obtain ⟨r, hr⟩ : ∃ p, p = qW g 1 := ⟨_, rfl⟩
 rw [← hr] at c3 e2
 by_cases hg1 : g = 1
 ·have hma : m = a := by rw [hm, hg1, Nat.div_one]
  have hkb : k = b := by rw [hk, hg1, Nat.div_one]
  rw [hma] at m1 ⊢
  rw [hkb] at m2 ⊢
  rw [decide_eq_true hg1] at e2
  by_cases h1 : len a ≤ 64
  ·have h1' : ¬ (64 : Int) < len a := by omega
   by_cases h2 : len b ≤ 64
   ·have h2' : ¬ (64 : Int) < len b := by omega
    cases s <;> simp [lf108, cm, ho, c2, c3, e2, m1, m2, h1, h1', h2, h2', qa, Fr.enc, mA, cf] <;> exact decide_eq_decide.2 Iff.rfl
   ·have h2' : (64 : Int) < len b := by omega
    simp [lf108, cm, ho, c2, c3, e2, h1, h1', h2, h2', qa, zF, Fr.enc, mA, cf]
  ·have h1' : (64 : Int) < len a := by omega
   simp [lf108, cm, ho, c2, c3, e2, h1, h1', qa, zF, Fr.enc, mA, cf]
 ·rw [decide_eq_false hg1] at e2
  by_cases h1 : len m ≤ 64
  ·have h1' : ¬ (64 : Int) < len m := by omega
   by_cases h2 : len k ≤ 64
   ·have h2' : ¬ (64 : Int) < len k := by omega
    cases s <;> simp [lf108, cm, ho, c2, c3, e2, q1, q2, m1, m2, h1, h1', h2, h2', qa, Fr.enc, mA, cf] <;> exact decide_eq_decide.2 Iff.rfl
   ·have h2' : (64 : Int) < len k := by omega
    simp [lf108, cm, ho, c2, c3, e2, q1, q2, h1, h1', h2, h2', qa, zF, Fr.enc, mA, cf]
  ·have h1' : (64 : Int) < len m := by omega
   simp [lf108, cm, ho, c2, c3, e2, q1, q2, h1, h1', qa, zF, Fr.enc, mA, cf]
theorem vF {x : Fr} (h : x.wf) : f1 uZ [x.enc] = some (.bool x.ok) := kZ h
theorem numF_ofQ (q : Rat) : numF (ofQ q) = iN q.num := rfl
theorem iN_nat (d : Nat) : iN (d : Int) = iP false (zc d) := by
 have h : decide ((d : Int) < 0) = false := decide_eq_false (by omega)
 unfold iN
 rw [h, Int.natAbs_natCast]
theorem denF_ofQ (q : Rat) : denF (ofQ q) = iN (q.den : Int) := by rw [iN_nat]; rfl
theorem nF (q : Rat) : f1 numF [(ofQ q).enc] = some (iN q.num) := by rw [kZ (kF q), numF_ofQ]
theorem dF (q : Rat) : f1 denF [(ofQ q).enc] = some (iN (q.den : Int)) := by rw [kZ (kF q), denF_ofQ]
theorem Sm_z {k : Nat} {q : Rat} (h : Sm k q) : zl q.num ≤ k := h.1
theorem Sm_d {k : Nat} {q : Rat} (h : Sm k q) : zl (q.den : Int) ≤ k := by unfold zl; rw [Int.natAbs_natCast]; exact h.2
theorem zl_mul {z w : Int} : zl (z * w) ≤ zl z + zl w := by unfold zl; rw [Int.natAbs_mul]; exact bZ _ _
theorem zl_add {z w : Int} : zl (z + w) ≤ max (zl z) (zl w) + 1 := by
 unfold zl
 exact Nat.le_trans (qu (Int.natAbs_add_le z w)) (len_add _ _)
theorem x9 (q : Rat) : (ofQ q).enc = .agg [.bool (decide (q.num < 0)), .lst ((zc q.num.natAbs).map u64), .lst ((zc q.den).map u64)] := rfl
theorem cmpQ_sgn (p : Rat) : gC p 0 = xo p.num := by
 unfold gC gB xo
 simp
def Tqa : Tab := ((((((((Tab.none.with 69 (za (f1 uZ))).with 111 (za (f1 numF))).with 116 (za (f1 denF))).with 115 (za ue)).with 114 (za bc)).with 110 (za cS)).with 109 (za uA)).with 108 (za ow)).with 117 (za wU)
theorem ss : TabOk Tryz.prog base Tqa := Tab.with_ok (Tab.with_ok (Tab.with_ok (Tab.with_ok (Tab.with_ok (Tab.with_ok (Tab.with_ok (Tab.with_ok (Tab.with_ok Tab.none_ok gU) qnum_ok) qden_ok) tO) eC) isign_ok) pu) qlow_ok) uX
theorem wH (f : FuncId) (a : List AVal) (H : zb) : Tqa.mu f a H = none := (rfl)
theorem qE : Tqa.fn 69 = za (f1 uZ) ∧ Tqa.fn 111 = za (f1 numF) ∧ Tqa.fn 116 = za (f1 denF) ∧ Tqa.fn 115 = za ue ∧ Tqa.fn 114 = za bc ∧ Tqa.fn 110 = za cS ∧ Tqa.fn 109 = za uA ∧ Tqa.fn 108 = za ow ∧ Tqa.fn 117 = za wU := ⟨rfl, rfl, rfl, rfl, rfl, rfl, rfl, rfl, rfl⟩
def vH (x : Fr) : PVal := .int .i64 (z9 x)
def o8 (x : Fr) : PVal := (hZ x).enc
def fy (x y : Fr) : PVal := qa (j6 x y)
def xK (x y : Fr) : PVal := qa (uD x y)
def sK (x y : Fr) : PVal := qa (cj x y)
theorem dV : zH Tryz.prog base 71 (za (f1 vH)) := by
 refine zd zE ss ze low71 fun args z hs hf => ?_
 obtain ⟨x, wx, rfl, rfl⟩ := gp hs
 refine ⟨by simp [lf71], ?_⟩
 have v1 := vF wx
 cases ox : x.ok with
 | false => rw [ox] at v1; simp only [Fr.enc] at v1 ⊢; simp [lf71, v1, vH, z9, ox, wH, qE]
 | true =>
  rw [ox] at v1
  obtain ⟨p, hp, rfl⟩ := Fr.ok_of ox
  have e : vH (ofQ p) = .int .i64 (xo p.num) := by unfold vH; rw [uL hp, cmpQ_sgn]
  rw [e]
  have n1 := nF p
  have s1 : cS [iN p.num] = some (.int .i64 (xo p.num)) := by
   have := oz (s := decide (p.num < 0)) (zC p.num.natAbs)
   rw [xF (Sm_z hp), yV] at this
   exact this
  simp only [Fr.enc] at v1 n1 ⊢
  simp [lf71, v1, n1, s1, wH, qE]
theorem qneg_ok : zH Tryz.prog base 118 (za (f1 o8)) := by
 refine zd zE ss ze low118 fun args z hs hf => ?_
 obtain ⟨x, wx, rfl, rfl⟩ := gp hs
 refine ⟨by simp [lf118], ?_⟩
 have v1 := vF wx
 cases ox : x.ok with
 | false => rw [ox] at v1; simp only [Fr.enc] at v1 ⊢; simp [lf118, v1, o8, hZ, ox, zF, Fr.enc, wH, qE]
 | true =>
  rw [ox] at v1
  obtain ⟨p, hp, rfl⟩ := Fr.ok_of ox
  have e : o8 (ofQ p) = (ofQ (-p)).enc := by unfold o8; rw [o9 hp]
  rw [e, ofQ_neg]
  have c1 := jG (a := p.num.natAbs) (by have := hp.1; omega)
  have c2 := jG (a := p.den) (by have := hp.2; omega)
  obtain ⟨s, hs⟩ : ∃ s, s = decide (p.num < 0) := ⟨_, rfl⟩
  rw [x9, ← hs] at v1 ⊢
  simp [lf118, v1, zw, Fr.enc, wH, qE]
  refine ⟨[], ?_⟩
  cases s <;> simp [c1, c2, cm, wH, qE] <;> exact decide_eq_decide.2 Iff.rfl
theorem qadd_ok : zH Tryz.prog base 74 (za (f2 fy)) := by
 refine zd zE ss ze low74 fun args z hs hf => ?_
 obtain ⟨x, y, wx, wy, rfl, rfl⟩ := gn hs
 refine ⟨by simp [lf74], ?_⟩
 have v1 := vF wx
 have v2 := vF wy
 cases ox : x.ok with
 | false => rw [ox] at v1; simp only [Fr.enc] at v1 ⊢; simp [lf74, v1, fy, j6, ox, qa, zF, Fr.enc, wH, qE]
 | true =>
  rw [ox] at v1
  cases oy : y.ok with
  | false => rw [oy] at v2; simp only [Fr.enc] at v1 v2 ⊢; simp [lf74, v1, v2, fy, j6, ox, oy, qa, zF, Fr.enc, wH, qE]
  | true =>
   rw [oy] at v2
   obtain ⟨p, hp, rfl⟩ := Fr.ok_of ox
   obtain ⟨q, hq, rfl⟩ := Fr.ok_of oy
   have e : fy (ofQ p) (ofQ q) = qa (ww (p + q)) := by unfold fy; rw [aG hp hq]
   rw [e]
   have zp := Sm_z hp
   have zq := Sm_z hq
   have dp := Sm_d hp
   have dq := Sm_d hq
   have t1 := mM (z := p.num) (w := q.den) (by omega) (by omega)
   have t2 := mM (z := q.num) (w := p.den) (by omega) (by omega)
   have l1 := zl_mul (z := p.num) (w := q.den)
   have l2 := zl_mul (z := q.num) (w := p.den)
   have o := ij (z := p.num * q.den) (w := q.num * p.den) (by omega) (by omega)
   have n1 := nF p
   have n2 := nF q
   have d1 := dF p
   have d2 := dF q
   have l3 := zl_add (z := p.num * q.den) (w := q.num * p.den)
   have dd : uA [.lst ((ofQ p).d.map u64), .lst ((ofQ q).d.map u64)] = some (.lst ((zc (p.den * q.den)).map u64)) := jF (a := p.den) (b := q.den) (by have := hp.2; omega) (by have := hq.2; omega)
   have l4 := bZ p.den q.den
   have hpd := hp.2
   have hqd := hq.2
   have lw := dT (decide (p.num * q.den + q.num * p.den < 0)) (a := (p.num * q.den + q.num * p.den).natAbs) (b := p.den * q.den) (by unfold zl at *; omega) (by omega) (Nat.mul_ne_zero p.den_nz q.den_nz)
   rw [vJ, add_mk] at lw
   obtain ⟨w, hw⟩ : ∃ w, w = p.num * q.den + q.num * p.den := ⟨_, rfl⟩
   rw [← hw] at o lw
   obtain ⟨R, hR⟩ : ∃ R, R = ww (p + q) := ⟨_, rfl⟩
   rw [← hR] at lw ⊢
   simp only [iN_case w, qa] at o lw ⊢
   simp only [Fr.enc] at v1 v2 n1 n2 d1 d2 lw ⊢
   simp [lf74, v1, v2, zw, wH, qE]
   refine ⟨[], ?_⟩
   simp [n1, n2, d1, d2, t1, t2, o, zw, wH, qE]
   refine ⟨fun k hk => by match k, hk with | 0, _ => rfl | 1, _ => rfl | 2, _ => rfl, [], ?_⟩
   simp [dd, lw, wH, qE]
theorem qmul_ok : zH Tryz.prog base 70 (za (f2 xK)) := by
 refine zd zE ss ze low70 fun args z hs hf => ?_
 obtain ⟨x, y, wx, wy, rfl, rfl⟩ := gn hs
 refine ⟨by simp [lf70], ?_⟩
 have v1 := vF wx
 have v2 := vF wy
 cases ox : x.ok with
 | false => rw [ox] at v1; simp only [Fr.enc] at v1 ⊢; simp [lf70, v1, xK, uD, ox, qa, zF, Fr.enc, wH, qE]
 | true =>
  rw [ox] at v1
  cases oy : y.ok with
  | false => rw [oy] at v2; simp only [Fr.enc] at v1 v2 ⊢; simp [lf70, v1, v2, xK, uD, ox, oy, qa, zF, Fr.enc, wH, qE]
  | true =>
   rw [oy] at v2
   obtain ⟨p, hp, rfl⟩ := Fr.ok_of ox
   obtain ⟨q, hq, rfl⟩ := Fr.ok_of oy
   have e : xK (ofQ p) (ofQ q) = qa (ww (p * q)) := by unfold xK; rw [mulF_num hp hq]
   rw [e]
   obtain ⟨a1, a2⟩ := hp
   obtain ⟨b1, b2⟩ := hq
   have t1 := jF (a := p.num.natAbs) (b := q.num.natAbs) (by omega) (by omega)
   have t2 := jF (a := p.den) (b := q.den) (by omega) (by omega)
   have l1 := bZ p.num.natAbs q.num.natAbs
   have l2 := bZ p.den q.den
   have lw := dT (decide (p.num < 0) != decide (q.num < 0)) (a := p.num.natAbs * q.num.natAbs) (b := p.den * q.den) (by omega) (by omega) (Nat.mul_ne_zero p.den_nz q.den_nz)
   rw [zah, mul_mk] at lw
   obtain ⟨R, hR⟩ : ∃ R, R = ww (p * q) := ⟨_, rfl⟩
   rw [← hR] at lw ⊢
   obtain ⟨s, hs⟩ : ∃ s, s = decide (p.num < 0) := ⟨_, rfl⟩
   obtain ⟨t, ht⟩ : ∃ s, s = decide (q.num < 0) := ⟨_, rfl⟩
   simp only [x9, qa, ← hs, ← ht] at v1 v2 lw ⊢
   simp [lf70, v1, v2, zw, Fr.enc, wH, qE]
   refine ⟨[], ?_⟩
   have hb : (s != t) = !(s == t) := by cases s <;> cases t <;> rfl
   simp [t1, t2, lw, ← hb, Fr.enc, wH, qE]
theorem qquo_ok : zH Tryz.prog base 79 (za (f2 sK)) := by
 refine zd zE ss ze low79 fun args z hs hf => ?_
 obtain ⟨x, y, wx, wy, rfl, rfl⟩ := gn hs
 refine ⟨by simp [lf79], ?_⟩
 have v1 := vF wx
 have v2 := vF wy
 cases ox : x.ok with
 | false => rw [ox] at v1; simp only [Fr.enc] at v1 ⊢; simp [lf79, v1, sK, cj, ox, qa, zF, Fr.enc, wH, qE]
 | true =>
  rw [ox] at v1
  cases oy : y.ok with
  | false => rw [oy] at v2; simp only [Fr.enc] at v1 v2 ⊢; simp [lf79, v1, v2, sK, cj, ox, oy, qa, zF, Fr.enc, wH, qE]
  | true =>
   rw [oy] at v2
   obtain ⟨p, hp, rfl⟩ := Fr.ok_of ox
   obtain ⟨q, hq, rfl⟩ := Fr.ok_of oy
   by_cases h0 : q = 0
   ·subst h0
    have e : sK (ofQ p) (ofQ 0) = qa (zF, 1) := by unfold sK cj; rw [ct, ct]; simp
    rw [e]
    rw [oX] at v2 ⊢
    simp only [Fr.enc, List.map_nil, List.map_cons, u64] at v1 v2 ⊢
    have v2' : f1 uZ [.agg [.bool false, .lst [], .lst [.int .u64 1]]] = some (.bool true) := v2
    simp [lf79, v1, v2', qa, zF, Fr.enc, wH, qE]
   ·have e : sK (ofQ p) (ofQ q) = qa (ww (p / q)) := by unfold sK; rw [quoF_num hp hq h0]
    rw [e]
    have hn : q.num.natAbs ≠ 0 := fun e => h0 (Rat.num_eq_zero.1 (by omega))
    have hl := ga hn
    obtain ⟨a1, a2⟩ := hp
    obtain ⟨b1, b2⟩ := hq
    have t1 := jF (a := p.num.natAbs) (b := q.den) (by omega) (by omega)
    have t2 := jF (a := p.den) (b := q.num.natAbs) (by omega) (by omega)
    have l1 := bZ p.num.natAbs q.den
    have l2 := bZ p.den q.num.natAbs
    have lw := dT (decide (p.num < 0) != decide (q.num < 0)) (a := p.num.natAbs * q.den) (b := p.den * q.num.natAbs) (by omega) (by omega) (Nat.mul_ne_zero p.den_nz hn)
    rw [quo_mk p h0] at lw
    obtain ⟨R, hR⟩ : ∃ R, R = ww (p / q) := ⟨_, rfl⟩
    rw [← hR] at lw ⊢
    obtain ⟨s, hs⟩ : ∃ s, s = decide (p.num < 0) := ⟨_, rfl⟩
    obtain ⟨t, ht⟩ : ∃ s, s = decide (q.num < 0) := ⟨_, rfl⟩
    simp only [x9, qa, ← hs, ← ht] at v1 v2 lw ⊢
    have hb : (s != t) = !(s == t) := by cases s <;> cases t <;> rfl
    simp [lf79, v1, v2, cm, hl, zw, Fr.enc, wH, qE]
    refine ⟨[], ?_⟩
    simp [t1, t2, lw, ← hb, Fr.enc, wH, qE]
theorem ma (z w : Int) : mkRat (zOf (decide (z < 0) != decide (w < 0)) z.natAbs) w.natAbs = Rat.divInt z w := by
 by_cases hw : w < 0
 ·obtain ⟨n, rfl⟩ : ∃ n : Nat, w = -(n : Int) := ⟨w.natAbs, by omega⟩
  rw [Rat.divInt_neg', Rat.divInt_ofNat, Int.natAbs_neg, Int.natAbs_natCast]
  congr 1
  by_cases hz : z < 0
  ·simp [zOf, hz]; omega
  ·simp [zOf, hz]; omega
 ·obtain ⟨n, rfl⟩ : ∃ n : Nat, w = (n : Int) := ⟨w.natAbs, by omega⟩
  rw [Rat.divInt_ofNat, Int.natAbs_natCast]
  congr 1
  by_cases hz : z < 0
  ·simp [zOf, hz]; omega
  ·simp [zOf, hz]; omega
def newF (s : Bool) (a : List Nat) (t : Bool) (b : List Nat) : Fr × Nat := if okI s a && okI t b && decide (b ≠ []) then ww (Rat.divInt (zL s a) (zL t b)) else (zF, 1)
def pN : List PVal → Option PVal
 | [.agg [.bool s, .lst xs], .agg [.bool t, .lst ys]] => match jz xs, jz ys with | some a, some b => some (qa (newF s a t b)) | _, _ => none
 | _ => none
theorem sNew_list {s t : Bool} {a b : List Nat} (ha : Wf a) (hb : Wf b) : pN [.agg [.bool s, .lst (a.map u64)], .agg [.bool t, .lst (b.map u64)]] = some (qa (newF s a t b)) := by simp only [pN, zY ha, zY hb]
theorem pM {z w : Int} (hz : zl z ≤ 64) (hw : zl w ≤ 64) (h0 : w ≠ 0) : pN [iN z, iN w] = some (qa (ww (Rat.divInt z w))) := by
 have h := sNew_list (s := decide (z < 0)) (t := decide (w < 0)) (zC z.natAbs) (zC w.natAbs)
 have hb : zc w.natAbs ≠ [] := fun e => h0 (by have := jr.1 e; omega)
 unfold newF at h
 rw [xF hz, xF hw, yV, yV, decide_eq_true hb] at h
 exact h
def Tqn : Tab := (Tab.none.with 112 (za sIV)).with 108 (za ow)
theorem Tqn_ok : TabOk Tryz.prog base Tqn := Tab.with_ok (Tab.with_ok Tab.none_ok tN) qlow_ok
theorem fC (f : FuncId) (a : List AVal) (H : zb) : Tqn.mu f a H = none := (rfl)
theorem pe : Tqn.fn 112 = za sIV ∧ Tqn.fn 108 = za ow := ⟨rfl, rfl⟩
theorem qnew_ok : zH Tryz.prog base 72 (za pN) := by
 refine zd zE Tqn_ok ze low72 fun args z hs hf => ?_
 unfold pN at hs
 split at hs
 case h_2 => cases hs
 rename_i s xs t ys
 split at hs
 case h_2 => cases hs
 rename_i a b ha hb
 obtain ⟨rfl, wa⟩ := zI ha
 obtain ⟨rfl, wb⟩ := zI hb
 cases hs
 refine ⟨by simp [lf72], ?_⟩
 have va := be (s := s) wa
 have vb := be (s := t) wb
 unfold newF
 cases oa : okI s a with
 | false => rw [oa] at va; simp [lf72, va, qa, zF, Fr.enc, fC, pe]
 | true =>
  rw [oa] at va
  cases ob : okI t b with
  | false => rw [ob] at vb; simp [lf72, va, vb, qa, zF, Fr.enc, fC, pe]
  | true =>
   rw [ob] at vb
   by_cases hb0 : b = []
   ·subst hb0
    simp only [List.map_nil] at vb
    simp [lf72, va, vb, qa, zF, Fr.enc, fC, pe]
   ·obtain ⟨z, lz, rfl, rfl⟩ := rr oa
    obtain ⟨w, lw, rfl, rfl⟩ := rr ob
    rw [yV, yV]
    have hw0 : w.natAbs ≠ 0 := fun e => hb0 (by rw [e, zy])
    have hl := ga hw0
    unfold zl at lz lw
    have L := dT (decide (z < 0) != decide (w < 0)) (a := z.natAbs) (b := w.natAbs) (by omega) (by omega) hw0
    rw [ma] at L
    obtain ⟨R, hR⟩ : ∃ R, R = ww (Rat.divInt z w) := ⟨_, rfl⟩
    rw [← hR] at L ⊢
    obtain ⟨s, hs⟩ : ∃ s, s = decide (z < 0) := ⟨_, rfl⟩
    obtain ⟨t, ht⟩ : ∃ s, s = decide (w < 0) := ⟨_, rfl⟩
    rw [← hs] at va L ⊢
    rw [← ht] at vb L ⊢
    have hb : (s != t) = !(s == t) := by cases s <;> cases t <;> rfl
    simp only [qa, Fr.enc] at L ⊢
    simp [lf72, va, vb, cm, hl, hb0, L, ← hb, fC, pe]
theorem pi {n : Int} (h1 : -9223372036854775808 ≤ n) (h2 : n < 9223372036854775808) : zl n ≤ 1 := by
 unfold zl
 exact dm (by rw [Nat.pow_one, qz]; omega)
theorem mE {k : Nat} {z w : Int} (hz : zl z ≤ k) (hw : zl w ≤ k) (hk : 1 ≤ k) : Sm k (Rat.divInt z w) := by
 by_cases h0 : w = 0
 ·subst h0
  rw [Rat.divInt_zero]
  refine ⟨?_, ?_⟩
  ·rw [Rat.zero_num]
   show len 0 ≤ k
   rw [rI]; omega
  ·rw [Rat.zero_den, nU]; exact hk
 ·rw [← ma]
  exact Sm_mk (by rw [wX]; exact hz) hw (by omega)
def cN : List PVal → Option PVal
 | [.int .i64 n, .int .i64 d] => if (-9223372036854775808 ≤ n ∧ n < 9223372036854775808) ∧ (-9223372036854775808 ≤ d ∧ d < 9223372036854775808) then some (ofQ (Rat.divInt n d)).enc else none
 | _ => none
theorem sQOf_at {n d : Int} (h1 : -9223372036854775808 ≤ n ∧ n < 9223372036854775808) (h2 : -9223372036854775808 ≤ d ∧ d < 9223372036854775808) : cN [.int .i64 n, .int .i64 d] = some (ofQ (Rat.divInt n d)).enc := if_pos ⟨h1, h2⟩
def Tqi : Tab := ((Tab.none.with 73 (za pS)).with 72 (za pN)).with 53 (za yo)
theorem Tqi_ok : TabOk Tryz.prog base Tqi := Tab.with_ok (Tab.with_ok (Tab.with_ok Tab.none_ok iof_ok) qnew_ok) p8
theorem Tqi_mu (f : FuncId) (a : List AVal) (H : zb) : Tqi.mu f a H = none := (rfl)
theorem Tqi_fns : Tqi.fn 73 = za pS ∧ Tqi.fn 72 = za pN ∧ Tqi.fn 53 = za yo := ⟨rfl, rfl, rfl⟩
theorem iG : zH Tryz.prog base 43 (za cN) := by
 refine zd zE Tqi_ok ze low43 fun args z hs hf => ?_
 unfold cN at hs
 split at hs
 case h_2 => cases hs
 rename_i n d
 split at hs
 case isFalse => cases hs
 rename_i hc
 obtain ⟨⟨n1, n2⟩, d1, d2⟩ := hc
 cases hs
 refine ⟨by simp [lf43], ?_⟩
 by_cases h0 : d = 0
 ·subst h0
  have h1 := cM
  rw [Rat.divInt_zero]
  simp only [Fr.enc] at h1 ⊢
  simp [lf43, h1, Tqi_mu, Tqi_fns]
 ·have hb : (d == 0) = false := beq_false_of_ne h0
  have o1 := bR n1 n2
  have o2 := bR d1 d2
  have z1 := pi n1 n2
  have z2 := pi d1 d2
  have N := pM (z := n) (w := d) (by omega) (by omega) h0
  rw [bB (mE (k := 64) (by omega) (by omega) (by omega))] at N
  simp only [qa, Fr.enc] at N ⊢
  simp [lf43, hb, o1, o2, N, Tqi_mu, Tqi_fns]
theorem lP (z : Int) : Rat.divInt z 1 = (z : Rat) := by
 rw [show (1 : Int) = ((1 : Nat) : Int) from rfl, Rat.divInt_ofNat]
 refine Rat.ext ?_ ?_
 ·rw [Rat.num_mkRat]; simp
 ·rw [Rat.den_mkRat]; simp
theorem sIOf_one : pS [.int .i64 1] = some (iN 1) := bR (by decide) (by decide)
theorem zl_one : zl 1 = 1 := by unfold zl; exact nU
end Go.Proofs.YtgbjjikaenlkmaaGreat

namespace Go.Proofs.YtgbjjikaenlkmaaGreat
open Go Go.Abs Go.Limbs
set_option maxRecDepth 20000
end Go.Proofs.YtgbjjikaenlkmaaGreat

namespace Go.Proofs.YtgbjjikaenlkmaaGreat
open Go Go.Abs Go.Limbs
variable {base : Prot}
set_option maxRecDepth 20000
attribute [local irreducible] vc
attribute [local simp] za zh freezeL fuel zk u64 au
def lowF (neg : Bool) (n d : List Nat × Nat) : Fr × Nat := if n.2 = 0 ∧ d.2 = 0 then ww (mkRat (zOf neg (val n.1)) (val d.1)) else (zF, 4)
end Go.Proofs.YtgbjjikaenlkmaaGreat

namespace Go.Proofs.YtgbjjikaenlkmaaGreat
open Go Go.Abs Go.Limbs Go.Lib
set_option maxRecDepth 20000
end Go.Proofs.YtgbjjikaenlkmaaGreat

namespace Go.Proofs.YtgbjjikaenlkmaaGreat
open Go Go.Abs Go.Limbs
variable {base : Prot}
set_option maxRecDepth 20000
attribute [local irreducible] vc
attribute [local simp] za zh freezeL fuel zk u64 au
end Go.Proofs.YtgbjjikaenlkmaaGreat

namespace Go.Proofs.YtgbjjikaenlkmaaGreat
open Go Go.Abs
def lf36 : LFunc := ⟨24,[.slot 4],.seq (.region [Oa 2 (.newv 3 33 (Tm 0)),Oa 3 (.newv 3 33 (Tm 1)),Oa 4 (.mov Kg)]) (.seq (.region [Oz 5 0 2,Oq 6 1 false 5,Oz 7 0 3,Oq 8 1 false 7,Oa 9 (.eqB false (Tm 6) (Tm 8)),Om 10 9,Oc 11 10 (.fadr 1 (Tm 2)),Oc 12 10 (.load 1 false (Tm 11)),Oc 13 10 (.fadr 1 (Tm 3)),Oc 14 10 (.load 1 false (Tm 13)),Oc 15 10 (.call 62 [Tm 12,Tm 14]),Ot 16 10 15,Om 17 16,Oc 18 17 (.fadr 2 (Tm 2)),Oc 19 17 (.load 1 false (Tm 18)),Oc 20 17 (.fadr 2 (Tm 3)),Oc 21 17 (.load 1 false (Tm 20)),Oc 22 17 (.call 62 [Tm 19,Tm 21]),Ot 23 17 22,Om 4 23]) (.ret))⟩
theorem low36 : zi Tryz.prog gl0 36 = some lf36 := Go.Abs.lowF (by kernel_rfl)
def lf64 : LFunc := ⟨38,[.cell 6 3 true],.seq (.region [Oa 6 (.newv 3 33 (.cst Zr))]) (.seq (.region [Om 12 1,Om 13 2,Oa 14 (.call 103 [Tm 12,Tm 13]),Om 7 14]) (.seq (.region [Om 16 1,Om 17 7,Oa 18 (.call 104 [Tm 16,Tm 17]),Om 15 18,Ox 19 15 0,Ox 20 15 1,Om 8 19,Om 9 20]) (.seq (.region [Om 22 2,Om 23 7,Oa 24 (.call 104 [Tm 22,Tm 23]),Om 21 24,Ox 25 21 0,Ox 26 21 1,Om 10 25,Om 11 26]) (.seq (.region [Om 27 0,Om 28 27,Oj 29 28 8,Oc 30 28 (.len (Tm 29)),Oc 31 28 (.bin .gtr (Tm 30) (Kz 0)),Ot 32 28 31,Om 33 8,Oa 34 (.call 66 [Tm 33]),Om 35 10,Oa 36 (.call 66 [Tm 35]),Oa 37 (.build Zr [(0,1,(Tm 32)),(1,1,(Tm 34)),(2,1,(Tm 36))]),Oy 3 6 37]) (.ret)))))⟩
theorem low64 : zi Tryz.prog gl0 64 = some lf64 := Go.Abs.lowF (by kernel_rfl)
def lf19 : LFunc := ⟨18,[.cell 4 3 true],.seq (.region [Oa 4 (.newv 3 33 (.cst Zr))]) (.seq (.seq (.region [Om 7 1,Oa 8 (.bin .eql (Tm 7) (Kz 0))]) (.cond (Tm 8) (.region [Oa 0 (.mov (Kz 0)),Oa 1 (.mov (Kz 1))]) (.skip))) (.seq (.region [Om 10 0,Oa 11 (.call 38 [Tm 10]),Om 12 1,Oa 13 (.call 38 [Tm 12]),Oa 14 (.call 37 [Tm 11,Tm 13]),Om 9 14,Ox 15 9 0,Ox 16 9 1,Oa 5 (.newv 3 33 (.cst Zr)),Oy 3 5 15,Om 6 16]) (.seq (.region [Oq 17 3 true 5,Oy 3 4 17]) (.ret))))⟩
theorem low19 : zi Tryz.prog gl0 19 = some lf19 := Go.Abs.lowF (by kernel_rfl)
def lf37 : LFunc := ⟨31,[.cell 4 3 true,.slot 5],.seq (.region [Oa 2 (.newv 2 113 (Tm 0)),Oa 3 (.newv 2 113 (Tm 1)),Oa 4 (.newv 3 33 (.cst Zr)),Oa 5 (.mov (Kz 0))]) (.seq (.seq (.region [Oq 6 2 true 2,Oa 7 (.call 63 [Tm 6]),Oa 8 (.un .not (Tm 7)),Om 9 8,Od 10 9 (.load 2 true (Tm 3)),Od 11 9 (.call 63 [Tm 10]),Od 12 9 (.un .not (Tm 11)),Ou 13 9 12,Om 14 13,Od 15 14 (.fadr 1 (Tm 3)),Od 16 14 (.load 1 false (Tm 15)),Od 17 14 (.len (Tm 16)),Od 18 14 (.bin .eql (Tm 17) (Kz 0)),Ou 19 14 18]) (.cond (Tm 19) (.seq (.region [Oa 20 (.build Zr []),Oy 3 4 20,Oa 5 (.mov (Kz 1))]) (.ret)) (.skip))) (.seq (.region [Oz 21 0 2,Oq 22 1 false 21,Oz 23 0 3,Oq 24 1 false 23,Oa 25 (.eqB true (Tm 22) (Tm 24)),Oz 26 1 2,Oq 27 1 false 26,Oz 28 1 3,Oq 29 1 false 28,Oa 30 (.call 64 [Tm 25,Tm 27,Tm 29]),Oy 3 4 30,Oa 5 (.mov (Kz 0))]) (.ret)))⟩
theorem low37 : zi Tryz.prog gl0 37 = some lf37 := Go.Abs.lowF (by kernel_rfl)
end Go.Proofs.YtgbjjikaenlkmaaGreat

namespace Go.Proofs.YtgbjjikaenlkmaaGreat
open Go Go.Abs Go.Limbs
variable {base : Prot}
set_option maxRecDepth 20000
attribute [local irreducible] vc
attribute [local simp] za zh freezeL fuel zk u64 au
def sZ (x y : Fr) : Bool := decide (x.s = y.s) && decide (x.n = y.n) && decide (x.d = y.d)
def yQ (x y : Fr) : PVal := .bool (sZ x y)
theorem rsame_ok : zH Tryz.prog base 36 (za (f2 yQ)) := by
 refine zd zE Tsm_ok ze low36 fun args z hs hf => ?_
 obtain ⟨x, y, wx, wy, rfl, rfl⟩ := gn hs
 obtain ⟨s, n, d⟩ := x
 obtain ⟨t, m, e⟩ := y
 refine ⟨by simp [lf36], ?_⟩
 have h1 := yn wx.1 wy.1
 have h2 := yn wx.2 wy.2
 simp only at h1 h2
 simp only [Fr.enc, yQ, sZ]
 obtain ⟨q1, hq1⟩ : ∃ q, q = decide (n = m) := ⟨_, rfl⟩
 obtain ⟨q2, hq2⟩ : ∃ q, q = decide (d = e) := ⟨_, rfl⟩
 rw [← hq1] at h1 ⊢
 rw [← hq2] at h2 ⊢
 cases s <;> cases t <;> cases q1 <;> cases q2 <;> simp [lf36, h1, h2, Tsm_mu, Tsm_fn]
def bQ : List PVal → Option PVal
 | [.lst xs, .int .i64 n] => match vq xs with | some a => if -6000000 ≤ n ∧ n ≤ 6000000 then some (wJ (if n < 0 then a / 2 ^ (-n).toNat else a * 2 ^ n.toNat)) else none | _ => none
 | _ => none
theorem ir {a n : Nat} (ha : len a ≤ 100000) (hn : n ≤ 6000000) : bQ [.lst ((zc a).map u64), .int .i64 n] = some (.lst ((zc (a * 2 ^ n)).map u64)) := by
 simp only [bQ, zM ha]
 rw [if_pos ⟨by omega, by omega⟩, if_neg (by omega)]
 rfl
def Trt : Tab := Tab.none.with 66 (za qM)
theorem Trt_ok : TabOk Tryz.prog base Trt := Tab.with_ok Tab.none_ok bk
theorem zad (f : FuncId) (a : List AVal) (H : zb) : Trt.mu f a H = none := (rfl)
theorem sq : Trt.fn 66 = za qM := (rfl)
theorem rup_loop {a m w s : Nat} {R : LExit → AFr → zb → Prop} {fr : AFr} {H : zb} (hla : len a ≤ 100000) (hw : w = m / 64) (hs : s = m % 64) (hm : m ≤ 6000000) (hH : H = [zG 0 (List.replicate w 0)]) (f0 : fr 0 = .p (.lst ((zc a).map u64)))
  (f9 : fr 9 = .own 0 0 w 0) (f10 : fr 10 = .p (.int .u64 s)) (f11 : fr 11 = .p (.int .u64 0)) (f12 : fr 12 = .p (.int .i64 0))
  (hR : ∀ (fr' : AFr) (H' : zb) (l : List Nat) (c : Nat) (x : AVal), l.length = w + len a → Wf l → c < B → val l + B ^ (w + len a) * c = a * 2 ^ m → IsRow H' x l → fr' 9 = x → fr' 11 = .p (.int .u64 c) → R .normal fr' H') : vc Trt lf133_B1 R fr H := by
 have la : (zc a).length = len a := rfl
 have wa := zC a
 have hs64 : s < 64 := by omega
 have hpow : 2 ^ m = B ^ w * 2 ^ s := by rw [yS, ← Nat.pow_add, show 64 * w + s = m by omega]
 simp only [lf133_B1, zr]
 refine zo (fun fr H => ∃ (i : Nat) (l : List Nat) (c : Nat) (x : AVal), i ≤ len a ∧ l.length = w + i ∧ Wf l ∧ c < 2 ^ s ∧ val l + B ^ (w + i) * c = val ((zc a).take i) * 2 ^ m ∧ IsRow H x l ∧
   fr 0 = .p (.lst ((zc a).map u64)) ∧ fr 9 = x ∧ fr 10 = .p (.int .u64 s) ∧ fr 11 = .p (.int .u64 c) ∧ fr 12 = .p (.int .i64 i))
  (fun fr _ => len a - zA (fr 12)) ⟨0, List.replicate w 0, 0, .own 0 0 w 0, by omega, by simp, Wf.zeros _, Nat.two_pow_pos s, by simp [qx, kz], .inr ⟨0, 0, by simp, by rw [hH]; rfl⟩, f0, f9, f10, by rw [f11]; rfl, by rw [f12]; rfl⟩ ?_
 rintro fr H ⟨i, l, c, x, hi, hl, hwl, hc, hv, hR', f0, f9, f10, f11, f12⟩
 subst f9
 have hcB : c < B := Nat.lt_of_lt_of_le hc (by rw [← bm]; exact Nat.pow_le_pow_right (by omega) (by omega))
 by_cases hlt : i < len a
 ·obtain ⟨y, hy⟩ : ∃ y, (zc a)[i]? = some y := ⟨_, List.getElem?_eq_getElem (by omega)⟩
  have hyB := wa.get hy
  obtain ⟨lo, hlo⟩ : ∃ t, t = y * 2 ^ s % B := ⟨_, rfl⟩
  obtain ⟨hb, hhb⟩ : ∃ t, t = y * 2 ^ s / B := ⟨_, rfl⟩
  have hsum : c + lo < B := by rw [hlo]; exact cG (by omega) hc
  have hbl : hb < 2 ^ s := by rw [hhb]; exact mK hyB
  have hloB : lo < B := by omega
  have e1 : qj .shl .u64 y s = some (.int .u64 lo) := by rw [jX (by omega), hlo]
  have e2 : qj .shr .u64 y ((64 - s : Nat) : Int) = some (.int .u64 hb) := by rw [vK (by omega), hhb, pD (by omega)]
  have e3 : IntKind.u64.wrap (64 - (s : Int)) = ((64 - s : Nat) : Int) := by rw [IntWalk.u64_in _ (by omega)]; omega
  have e4 := bV hloB hcB
  rw [show lo ||| c = c + lo by rw [Nat.or_comm, hlo]; exact iJ (by omega) hc] at e4
  obtain ⟨D, hD⟩ : ∃ t, t = c + lo := ⟨_, rfl⟩
  rw [← hD] at e4 hsum
  have hw5 := zs (i := i) (by omega)
  obtain ⟨j, ver, H', happ, hj⟩ := fo hR' D (by omega) ⟨1, 0, false, [.p (.int .u64 D)], 147⟩
  have hRn : IsRow H' (.own j 0 (l.length + 1) ver) (l ++ [D]) := by
   have := IsRow.own hj
   simpa using this
  have hwn : Wf (l ++ [D]) := hwl.append (Wf.cons hsum Wf.nil)
  have hnew : val (l ++ [D]) + B ^ (w + (i + 1)) * hb = val ((zc a).take (i + 1)) * 2 ^ m := by
   rw [yZ, hl, zB hy, hD, hlo, hhb, ← Nat.add_assoc, Nat.pow_succ]
   refine fY hv ?_
   rw [hpow, Nat.pow_add]
   rw [Nat.mul_assoc, Nat.mul_comm (B ^ i), Nat.mul_assoc]
  by_cases hs0 : s = 0
  ·subst hs0
   rw [show ((0 : Nat) : Int) = 0 from rfl] at e1
   have hb0 : hb = 0 := by omega
   simp [-BitVec.toNat_or, f0, f10, f11, f12, la, hlt, z3 hy, e1, e4, happ, hw5, zO, zA, -qC]
   rw [hb0, Nat.mul_zero, Nat.add_zero] at hnew
   exact ⟨⟨i + 1, by omega, l ++ [D], by simp; omega, hwn, hnew, _, hRn, rfl, by omega⟩, by omega⟩
  ·have hsI : (0 : Int) < s := by omega
   have hsN : 0 < s := by omega
   simp [-BitVec.toNat_or, f0, f10, f11, f12, la, hlt, z3 hy, e1, e2, e3, e4, happ, hsN, hw5, zO, zA, -qC]
   exact ⟨⟨i + 1, by omega, l ++ [D], by simp; omega, hwn, hb, hbl, hnew, _, hRn, rfl, rfl, by omega⟩, by omega⟩
 ·obtain rfl : i = len a := by omega
  rw [List.take_of_length_le (by omega), zx] at hv
  simp [f0, f12, la]
  exact hR _ H l c _ hl hwl hcB hv hR' (by simp) (by simp [f11])
theorem rshift_ok : zH Tryz.prog base 133 (za bQ) := by
 refine zd zE Trt_ok ze low133 fun args z hs hf => ?_
 unfold bQ at hs
 split at hs
 case h_2 => cases hs
 rename_i xs n
 split at hs
 case h_2 => cases hs
 rename_i a ha
 split at hs
 case isFalse => cases hs
 rename_i hn
 cases hs
 obtain ⟨rfl, hla⟩ := zD ha
 refine ⟨by simp [lf133], ?_⟩
 have la : (zc a).length = len a := rfl
 have wa := zC a
 by_cases hneg : n < 0
 ·obtain ⟨m, hm⟩ : ∃ m : Nat, -n = m := ⟨(-n).toNat, by omega⟩
  obtain ⟨w, hw⟩ : ∃ w, w = m / 64 := ⟨_, rfl⟩
  obtain ⟨s, hs⟩ : ∃ s, s = m % 64 := ⟨_, rfl⟩
  have hs64 : s < 64 := by omega
  have q0 : IntKind.i64.wrap (-n) = (m : Int) := by rw [IntWalk.i64_in _ (by omega), hm]
  have q1' : IntKind.i64.wrap ((m : Int) / 64) = (w : Int) := by rw [IntWalk.i64_in _ (by omega)]; omega
  have q1 : IntKind.i64.wrap ((m : Int).tdiv 64) = (w : Int) := by rw [Int.tdiv_eq_ediv_of_nonneg (by omega), q1']
  have q2 : (m : Int).tmod 64 = (s : Int) := by rw [Int.tmod_eq_emod_of_nonneg (by omega)]; omega
  have q3 : IntKind.u64.wrap (s : Int) = s := IntWalk.u64_in _ (by omega)
  have hpow : 2 ^ m = B ^ w * 2 ^ s := by rw [yS, ← Nat.pow_add, show 64 * w + s = m by omega]
  have hmn : (-n).toNat = m := by omega
  rw [if_pos hneg, hmn]
  by_cases hwl : len a ≤ w
  ·have hz : a / 2 ^ m = 0 := by
    refine Nat.div_eq_of_lt (Nat.lt_of_lt_of_le (wV a) (Nat.le_trans (jx hwl) ?_))
    rw [hpow]
    exact Nat.le_mul_of_pos_right _ (Nat.two_pow_pos s)
   rw [hz]
   simp [lf133, la, hneg, q0, q1', hwl, wJ, jK, zy]
  ·obtain ⟨A, hA⟩ : ∃ A, A = (zc a).drop w := ⟨_, rfl⟩
   have wA : Wf A := by rw [hA]; exact wa.drop _
   have hAv : val A = a / B ^ w := by rw [hA, wj wa, zx]
   have hAl : A.length = len a - w := by rw [hA]; simp [la]
   have hAA' : List.drop w (List.map u64 (zc a)) = A.map u64 := by rw [hA, List.map_drop]
   have hAA : List.drop w (List.take (len a) (List.map u64 (zc a))) = A.map u64 := by
    rw [List.take_of_length_le (by simp [la]), hAA']
   have hwle : w ≤ len a := by omega
   have hdiv : a / 2 ^ m = val A / 2 ^ s := by rw [hAv, Nat.div_div_eq_div_mul, ← hpow]
   have hcap := wK A.length (by omega)
   rw [hdiv]
   have happ := fu (H := [zG 0 []]) (k := 0) (ver := 0) (out := []) (ys := A) rfl (by simp; omega)
   simp only [List.length_nil, Nat.zero_add, List.nil_append, List.set_cons_zero] at happ
   simp [zG, -qC] at happ
   simp [lf133, la, hneg, q0, q1', q2, q3, hwl, hwle, hAA, pC, zO, au_comp, happ, -qC]
   simp only [lf133_B0, zr]
   refine zo (fun fr H => ∃ (i : Nat) (l : List Nat), i ≤ A.length ∧ (s = 0 → i = 0) ∧ l.length = A.length ∧ Wf l ∧ val (l.take i) = val A / 2 ^ s % B ^ i ∧ l.drop i = A.drop i ∧ H = [zG 1 l] ∧
     fr 6 = .own 0 0 A.length 1 ∧ fr 7 = .p (.int .u64 s) ∧ fr 8 = .p (.int .i64 i))
    (fun fr _ => A.length - zA (fr 8)) ⟨0, A, by omega, fun _ => rfl, rfl, wA, by simp [qx, Nat.mod_one], rfl, by simp [zG], by simp, by simp, by simp⟩ ?_
   rintro fr H ⟨i, l, hi, hi0, hl, hwfl, hv, hdr, rfl, h6, h7, h8⟩
   by_cases hs0 : s = 0
   ·have hi0 := hi0 hs0
    subst hi0
    have hlA : l = A := by simpa using hdr
    subst hlA
    have hvl : val l = val l / 2 ^ s := by rw [hs0]; simp
    obtain ⟨hT, ht⟩ := jT rfl hwfl (by omega) hvl
    have hsI : ¬ (0 : Int) < s := by omega
    have hsN : ¬ 0 < s := by omega
    simp only [wJ, jK] at ht
    by_cases hl0 : 0 < l.length
    ·simp [h6, h7, h8, hl0, hsN, zG, hT, ht, zT, zU, zad, sq, wJ, jK, freeze1]
    ·omega
   ·have hsI : (0 : Int) < s := by omega
    have hsN : 0 < s := by omega
    by_cases hlt : i < A.length
    ·obtain ⟨x, hx⟩ : ∃ x, A[i]? = some x := ⟨_, List.getElem?_eq_getElem hlt⟩
     have hxB := wA.get hx
     have hil : i < l.length := by omega
     have hlx : l[i]? = some x := by
      have := congrArg (fun t => t[0]?) hdr
      simp only [List.getElem?_drop, Nat.add_zero] at this
      rw [this]; exact hx
     obtain ⟨xs, hxs⟩ : ∃ t, t = x / 2 ^ s := ⟨_, rfl⟩
     have hxsB : xs < B := by rw [hxs]; exact Nat.lt_of_le_of_lt (Nat.div_le_self _ _) hxB
     have e1 : qj .shr .u64 x s = some (.int .u64 xs) := by rw [vK (by omega), hxs]
     have hlimb := p7 wA hx (show s ≤ 64 by omega)
     have step : ∀ t, val A / 2 ^ s / B ^ i % B = t → val ((l.set i t).take (i + 1)) = val A / 2 ^ s % B ^ (i + 1) := fun t ht => by
      rw [zW hil, hv, eo ht]
     have hw5 := zs (i := i) (by omega)
     rw [dif_neg hs0] at hlimb
     have hdr' : ∀ t, (l.set i t).drop (i + 1) = A.drop (i + 1) := fun t => by
      rw [List.drop_set_of_lt (by omega), ← List.drop_drop, hdr, List.drop_drop]
     by_cases hlt2 : i + 1 < A.length
     ·obtain ⟨y, hy⟩ : ∃ y, A[i + 1]? = some y := ⟨_, List.getElem?_eq_getElem hlt2⟩
      have hly : l[i + 1]? = some y := by
       have := congrArg (fun t => t[1]?) hdr
       simp only [List.getElem?_drop] at this
       rw [this]; exact hy
      rw [hy] at hlimb
      simp only at hlimb
      obtain ⟨lo, hlo⟩ : ∃ t, t = y * 2 ^ (64 - s) % B := ⟨_, rfl⟩
      have hloB : lo < B := by rw [hlo]; exact Nat.mod_lt _ qw
      have e2 : qj .shl .u64 y ((64 - s : Nat) : Int) = some (.int .u64 lo) := by rw [jX (by omega), hlo]
      have e3 : IntKind.u64.wrap (64 - (s : Int)) = ((64 - s : Nat) : Int) := by rw [IntWalk.u64_in _ (by omega)]; omega
      have e4 := bV hxsB hloB
      rw [show xs ||| lo = xs + lo by rw [hxs, hlo]; exact shr_or (by omega) hxB] at e4
      obtain ⟨t, ht⟩ : ∃ t, t = xs + lo := ⟨_, rfl⟩
      rw [← ht] at e4
      have htB : t < B := by rw [← hxs, ← hlo, ← ht] at hlimb; rw [← hlimb]; exact Nat.mod_lt _ qw
      obtain ⟨i1, hi1⟩ : ∃ k, k = i + 1 := ⟨_, rfl⟩
      rw [← hi1] at hw5 hy hly
      have hlt3 : i1 < A.length := by omega
      have hne : ¬ i = i1 := by omega
      rw [← hxs, ← hlo, ← ht] at hlimb
      simp [h6, h7, h8, hl, hlt, hlt3, z3 hlx, e1, hsN, zG, hw5]
      rw [zw]
      refine ⟨[], ?_⟩
      simp [-BitVec.toNat_or, h6, h7, h8, hl, hlt, hlt3, z3 hly, hne, e2, e3, e4, hw5, zA]
      exact ⟨⟨i1, by omega, fun h => absurd h hs0, l.set i t, by simp [hl], hwfl.set _ htB, by rw [hi1]; exact step _ hlimb, by rw [hi1]; exact hdr' t, by rw [List.map_set]; rfl, rfl⟩, by omega⟩
     ·have hy : A[i + 1]? = none := List.getElem?_eq_none (by omega)
      rw [hy] at hlimb
      simp only at hlimb
      rw [← hxs] at hlimb
      obtain ⟨i1, hi1⟩ : ∃ k, k = i + 1 := ⟨_, rfl⟩
      rw [← hi1] at hw5
      have hlt3 : ¬ i1 < A.length := by omega
      simp [h6, h7, h8, hl, hlt, hlt3, z3 hlx, e1, hsN, zG, hw5, zA]
      exact ⟨⟨i1, by omega, fun h => absurd h hs0, l.set i xs, by simp [hl], hwfl.set _ hxsB, by rw [hi1]; exact step _ hlimb, by rw [hi1]; exact hdr' xs, by rw [List.map_set]; rfl, rfl⟩, by omega⟩
    ·have hil : i = A.length := by omega
     subst hil
     have hvl : val l = val A / 2 ^ s := by
      rw [List.take_of_length_le (by omega)] at hv
      rw [hv]
      exact Nat.mod_eq_of_lt (Nat.lt_of_le_of_lt (Nat.div_le_self _ _) (kG wA))
     obtain ⟨hT, ht⟩ := jT hl hwfl (by omega) hvl
     simp only [wJ, jK] at ht
     simp [h6, h8, zG, hl, hT, ht, zT, zU, zad, sq, wJ, jK, freeze1]
 ·obtain ⟨m, rfl⟩ := Int.eq_ofNat_of_zero_le (a := n) (by omega)
  obtain ⟨w, hw⟩ : ∃ w, w = m / 64 := ⟨_, rfl⟩
  obtain ⟨s, hs⟩ : ∃ s, s = m % 64 := ⟨_, rfl⟩
  have hs64 : s < 64 := by omega
  have q1' : IntKind.i64.wrap ((m : Int) / 64) = (w : Int) := by rw [IntWalk.i64_in _ (by omega)]; omega
  have q1 : IntKind.i64.wrap ((m : Int).tdiv 64) = (w : Int) := by rw [Int.tdiv_eq_ediv_of_nonneg (by omega), q1']
  have q2 : (m : Int).tmod 64 = (s : Int) := by rw [Int.tmod_eq_emod_of_nonneg (by omega)]; omega
  have q2' : (m : Int) % 64 = (s : Int) := by omega
  have q3 : IntKind.u64.wrap (s : Int) = s := IntWalk.u64_in _ (by omega)
  have hpow : 2 ^ m = B ^ w * 2 ^ s := by rw [yS, ← Nat.pow_add, show 64 * w + s = m by omega]
  have hcap := wK w (by omega)
  rw [if_neg hneg, Int.toNat_natCast]
  simp [lf133, hneg, q1', q2, q3, hcap]
  refine rup_loop (a := a) (m := m) (w := w) (s := s) hla hw hs (by omega) (by simp [zG]) (by simp) (by simp) (by simp) (by simp) (by simp) ?_
  intro fr' H l c x hl hwl hcB hv hR f9 f11
  subst f9
  have hwn : Wf (l ++ [c]) := hwl.append (Wf.cons hcB Wf.nil)
  have hvl : val (l ++ [c]) = a * 2 ^ m := by rw [yZ, hl]; exact hv
  have ht := vY hwn (by simp; omega)
  rw [hvl] at ht
  obtain ⟨j, ver, H', happ, hj⟩ := fo hR c (by omega) ⟨1, 0, false, [.p (.int .u64 c)], 147⟩
  obtain ⟨L, hL⟩ : ∃ t, t = l ++ [c] := ⟨_, rfl⟩
  have hLl : l.length + 1 = L.length := by rw [hL]; simp
  rw [← hL] at ht hj
  rw [hLl] at happ
  have htk : List.take L.length (L.map u64) = L.map u64 := List.take_of_length_le (by simp)
  unfold zG at hj
  simp [f11, happ, zO, -qC]
  simp [hj, ht, htk, zT, zU, zad, sq, wJ, jK]
def bd : List PVal → Option PVal
 | [.lst xs, .lst ys] => match vq xs, vq ys with | some a, some b => if b = 0 ∨ 90000 < len a then none else some (.tup [wJ (a / b), wJ (a % b)]) | _, _ => none
 | _ => none
theorem cL {a b : Nat} (ha : len a ≤ 90000) (hb : len b ≤ 100000) (h0 : b ≠ 0) : bd [.lst ((zc a).map u64), .lst ((zc b).map u64)] = some (.tup [.lst ((zc (a / b)).map u64), .lst ((zc (a % b)).map u64)]) := by
 simp only [bd, zM (show len a ≤ 100000 by omega), zM hb]
 rw [if_neg (by rintro (h | h); exact h0 h; omega)]; rfl
def Tdv : Tab := ((((Tab.none.with 120 (za wS)).with 134 (za kQ)).with 133 (za bQ)).with 66 (za qM)).with 132 (za ta)
theorem Tdv_ok : TabOk Tryz.prog base Tdv := Tab.with_ok (Tab.with_ok (Tab.with_ok (Tab.with_ok (Tab.with_ok Tab.none_ok rcmp_ok) rsub_ok) rshift_ok) bk) rbits_ok
theorem sB (f : FuncId) (a : List AVal) (H : zb) : Tdv.mu f a H = none := (rfl)
theorem gJ : Tdv.fn 120 = za wS ∧ Tdv.fn 134 = za kQ ∧ Tdv.fn 133 = za bQ ∧ Tdv.fn 66 = za qM ∧ Tdv.fn 132 = za ta := ⟨rfl, rfl, rfl, rfl, rfl⟩
theorem bit_or {o t y : Nat} (ho : o = 2 ^ (t + 1) * y) : o ||| 2 ^ t = o + 2 ^ t := by
 rw [Nat.or_comm, ho, Nat.mul_comm (2 ^ (t + 1)) y, iM (Nat.pow_lt_pow_right (by omega) (by omega)), Nat.add_comm]
theorem bit_limb {V Q w t : Nat} (ht : t < 64) (h : V = 2 ^ (64 * w + t + 1) * Q) : ∃ y, V / B ^ w % B = 2 ^ (t + 1) * y ∧ 2 ^ (t + 1) * y + 2 ^ t < B := by
 have e : V = B ^ w * (2 ^ (t + 1) * Q) := by rw [h, yS, ← Nat.mul_assoc, ← Nat.pow_add, Nat.add_assoc]
 have h2 : B = 2 ^ (t + 1) * 2 ^ (63 - t) := by rw [← Nat.pow_add, show t + 1 + (63 - t) = 64 by omega, bm]
 refine ⟨Q % 2 ^ (63 - t), ?_, ?_⟩
 ·rw [e, Nat.mul_div_cancel_left _ (vA w), h2, Nat.mul_mod_mul_left]
 ·have h3 : Q % 2 ^ (63 - t) + 1 ≤ 2 ^ (63 - t) := Nat.mod_lt _ (Nat.two_pow_pos _)
  have h4 := Nat.mul_le_mul_left (2 ^ (t + 1)) h3
  rw [← h2, Nat.mul_add, Nat.mul_one] at h4
  have h5 : 2 ^ t < 2 ^ (t + 1) := Nat.pow_lt_pow_right (by omega) (by omega)
  omega
theorem rdiv_ok : zH Tryz.prog base 104 (za bd) := by
 refine zd zE Tdv_ok ze low104 fun args z hs hf => ?_
 unfold bd at hs
 split at hs
 case h_2 => cases hs
 rename_i xs ys
 split at hs
 case h_2 => cases hs
 rename_i a b ha hb
 split at hs
 case isTrue => cases hs
 rename_i hc
 cases hs
 have hb0 : b ≠ 0 := fun e => hc (.inl e)
 have hla' : len a ≤ 90000 := by omega
 obtain ⟨rfl, hla⟩ := zD ha
 obtain ⟨rfl, hlb⟩ := zD hb
 refine ⟨by simp [lf104], ?_⟩
 have la : (zc a).length = len a := rfl
 have hO := kP hla hlb
 by_cases hab : a < b
 ·rw [jU hab] at hO
  simp [lf104, hO, Nat.div_eq_of_lt hab, Nat.mod_eq_of_lt hab, zy, sB, gJ, wJ, jK]
 ·have hcn : ¬ qW a b < 0 := fun h => by have := r7.1 h; omega
  obtain ⟨c, hcc⟩ : ∃ t, t = qW a b := ⟨_, rfl⟩
  rw [← hcc] at hO hcn
  have hba : b ≤ a := by omega
  have h1 := s9 hla
  have h2 := s9 hlb
  have hsz := size_mono hba
  have sa : size a ≤ 64 * len a := by rw [wo, ← yS]; exact wV a
  obtain ⟨K, hK⟩ : ∃ K, size a = size b + K := ⟨size a - size b, by omega⟩
  have w1 : IntKind.i64.wrap ((size a : Int) - size b) = ((K + 1 : Nat) : Int) - 1 := by rw [IntWalk.i64_in _ (by omega)]; omega
  have hcap := wK (len a) (by omega)
  have hbs : a < b * 2 ^ (K + 1) := by
   refine Nat.lt_of_lt_of_le (uk a) ?_
   have h3 := size_le hb0
   have h4 := kL hb0
   rw [hK, show size b + K = size b - 1 + (K + 1) by omega, Nat.pow_add]
   exact Nat.mul_le_mul_right _ h3
  simp [lf104, la, hO, hcn, h1, h2, w1, hcap, sB, gJ]
  simp only [lf104_B0, zr]
  refine zo (fun fr H => ∃ (c r Q : Nat) (ql : List Nat), c ≤ K + 1 ∧ r < b * 2 ^ c ∧ a = r + b * 2 ^ c * Q ∧ ql.length = len a ∧ Wf ql ∧ val ql = 2 ^ c * Q ∧ H = [zG 0 ql] ∧
    fr 1 = .p (.lst ((zc b).map u64)) ∧ fr 6 = .own 0 0 (len a) 0 ∧ fr 7 = .p (.lst ((zc r).map u64)) ∧ fr 8 = .p (.int .i64 ((c : Int) - 1)))
   (fun fr _ => rW (fr 8)) ⟨K + 1, a, 0, List.replicate (len a) 0, by omega, hbs, by omega, by simp, Wf.zeros _, by rw [kz]; simp, by simp [zG], by simp, by simp, by simp, by simp⟩ ?_
  rintro fr H ⟨c, r, Q, ql, hcK, hr, hA, hql, hwq, hqv, rfl, f1, f6, f7, f8⟩
  by_cases hc0 : 0 < c
  ·obtain ⟨k, rfl⟩ : ∃ m, c = m + 1 := ⟨c - 1, by omega⟩
   have e8 : (((k + 1 : Nat) : Int) - 1) = (k : Int) := by omega
   rw [e8] at f8
   have hra : r ≤ a := by rw [hA]; exact Nat.le_add_right _ _
   have hlr : len r ≤ 100000 := Nat.le_trans (qu hra) hla
   obtain ⟨s, hs⟩ : ∃ t, t = b * 2 ^ k := ⟨_, rfl⟩
   have hsh := ir (a := b) (n := k) hlb (by omega)
   rw [← hs] at hsh
   have hls : len s ≤ 100000 := by
    refine Nat.le_trans (dm (k := len a) ?_) hla
    rw [hs, yS]
    refine Nat.lt_of_lt_of_le (m := 2 ^ (size b + k)) ?_ (Nat.pow_le_pow_right (by omega) (by omega))
    rw [Nat.pow_add]
    exact Nat.mul_lt_mul_of_pos_right (uk b) (Nat.two_pow_pos k)
   have hO2 := kP hlr hls
   obtain ⟨w, hw⟩ : ∃ w, w = k / 64 := ⟨_, rfl⟩
   obtain ⟨t, ht⟩ : ∃ t, t = k % 64 := ⟨_, rfl⟩
   have hkw : k = 64 * w + t := by omega
   have ht64 : t < 64 := by omega
   have q1' : IntKind.i64.wrap ((k : Int) / 64) = (w : Int) := by rw [IntWalk.i64_in _ (by omega)]; omega
   have q1 : IntKind.i64.wrap ((k : Int).tdiv 64) = (w : Int) := by rw [Int.tdiv_eq_ediv_of_nonneg (by omega), q1']
   have q2 : (k : Int).tmod 64 = (t : Int) := by rw [Int.tmod_eq_emod_of_nonneg (by omega)]; omega
   have q2' : (k : Int) % 64 = (t : Int) := by omega
   have q3 : IntKind.u64.wrap (t : Int) = t := IntWalk.u64_in _ (by omega)
   have w7 : IntKind.i64.wrap ((k : Int) - 1) = (k : Int) - 1 := IntWalk.i64_in _ (by omega)
   have hsb := kL hb0
   have hwl : w < len a := by omega
   obtain ⟨o, ho⟩ : ∃ o, ql[w]? = some o := ⟨_, List.getElem?_eq_getElem (by omega)⟩
   have hoB := hwq.get ho
   have hov : o = val ql / B ^ w % B := by rw [← wj hwq, vd ho, Nat.add_mul_mod_self_left, Nat.mod_eq_of_lt hoB]
   obtain ⟨y, hy, hyB⟩ := bit_limb ht64 (show val ql = 2 ^ (64 * w + t + 1) * Q by rw [hqv, hkw])
   rw [← hov] at hy
   rw [← hy] at hyB
   have hor := bit_or hy
   have htB : 2 ^ t < B := by omega
   have e1 : qj .shl .u64 1 t = some (.int .u64 (2 ^ t : Nat)) := by
    have := jX (x := 1) (s := t) (by omega)
    rw [Nat.one_mul, Nat.mod_eq_of_lt htB] at this
    exact this
   have e4 := bV hoB htB
   rw [hor] at e4
   obtain ⟨o2, ho2⟩ : ∃ t', t' = o + 2 ^ t := ⟨_, rfl⟩
   obtain ⟨tt, htt⟩ : ∃ t', t' = 2 ^ t := ⟨_, rfl⟩
   rw [← ho2] at e4 hyB
   rw [← htt] at e1 e4
   have hset := zam o2 ho
   have hb1 := bin_step (A := a) (r := r) (b := b) (P := 2 ^ k) (q := Q) (by rw [← Nat.pow_succ]; exact hA) (by rw [← Nat.pow_succ]; exact hr)
   rw [← hs] at hb1
   by_cases hle : s ≤ r
   ·obtain ⟨g1, g2⟩ := hb1.1 hle
    have hcn : ¬ qW r s < 0 := fun h => by have := r7.1 h; omega
    have hcp : (0 : Int) ≤ qW r s := by omega
    obtain ⟨cc, hcc⟩ : ∃ t, t = qW r s := ⟨_, rfl⟩
    rw [← hcc] at hO2 hcp
    have hM := cR hlr hls hle
    obtain ⟨r2, hr2⟩ : ∃ t, t = r - s := ⟨_, rfl⟩
    rw [← hr2] at hM g1 g2
    have hnv : val (ql.set w o2) = 2 ^ k * (1 + 2 * Q) := by
     have e2 : B ^ w * 2 ^ t = 2 ^ k := by rw [yS, ← Nat.pow_add, hkw]
     have e3 : B ^ w * o2 = B ^ w * o + 2 ^ k := by rw [ho2, Nat.mul_add, e2]
     have e5 : 2 ^ k * (1 + 2 * Q) = 2 ^ k + 2 ^ (k + 1) * Q := by rw [Nat.mul_add, Nat.mul_one, Nat.pow_succ, Nat.mul_assoc]
     rw [e5, ← hqv]
     omega
    simp [-BitVec.toNat_or, f1, f6, f7, f8, hsh, hO2, hcp, hM, q1', q2, q3, w7, hwl, hql, z3 ho, e1, e4, zG, rW, sB, gJ]
    exact ⟨k, by omega, r2, by rw [← hs]; exact g2, 1 + 2 * Q, by rw [← hs]; exact g1, ql.set w o2, by simp [hql], hwq.set _ hyB, hnv, by rw [List.map_set]; rfl, rfl, rfl⟩
   ·obtain ⟨g1, g2⟩ := hb1.2 hle
    have hcn : qW r s = -1 := jU (by omega)
    rw [hcn] at hO2
    simp [f1, f6, f7, f8, hsh, hO2, w7, zG, rW, sB, gJ]
    exact ⟨k, by omega, r, by rw [← hs]; exact g2, 2 * Q, by rw [← hs]; exact g1, ql, hql, hwq, by rw [hqv, Nat.pow_succ, Nat.mul_assoc], rfl, rfl, rfl⟩
  ·have : c = 0 := by omega
   subst this
   rw [Nat.pow_zero, Nat.mul_one] at hr hA
   rw [Nat.pow_zero, Nat.one_mul] at hqv
   obtain ⟨e1, e2⟩ := gu (a := a) (k := b) (q := Q) (r := r) (by omega) hr
   rw [← e1, ← e2]
   obtain ⟨hT, ht⟩ := jT hql hwq (by omega) hqv
   simp only [wJ, jK] at ht
   simp [f6, f7, f8, zG, hql, hT, ht, zT, zU, sB, gJ, freeze1, wJ, jK]
def Trg : Tab := Tab.none.with 104 (za bd)
theorem Trg_ok : TabOk Tryz.prog base Trg := Tab.with_ok Tab.none_ok rdiv_ok
theorem Trg_mu (f : FuncId) (a : List AVal) (H : zb) : Trg.mu f a H = none := (rfl)
theorem Trg_fn : Trg.fn 104 = za bd := (rfl)
def ti : List PVal → Option PVal
 | [.lst xs, .lst ys] => match vq xs, vq ys with | some a, some b => if len a ≤ 90000 ∧ len b ≤ 90000 then some (wJ (Nat.gcd a b)) else none | _, _ => none
 | _ => none
theorem sGcdR_num {a b : Nat} (ha : len a ≤ 90000) (hb : len b ≤ 90000) : ti [.lst ((zc a).map u64), .lst ((zc b).map u64)] = some (.lst ((zc (Nat.gcd a b)).map u64)) := by
 simp only [ti, zM (show len a ≤ 100000 by omega), zM (show len b ≤ 100000 by omega)]
 rw [if_pos ⟨ha, hb⟩]; rfl
theorem rgcd_ok : zH Tryz.prog base 103 (za ti) := by
 refine zd zE Trg_ok ze low103 fun args z hs hf => ?_
 unfold ti at hs
 split at hs
 case h_2 => cases hs
 rename_i xs ys
 split at hs
 case h_2 => cases hs
 rename_i a b ha hb
 split at hs
 case isFalse => cases hs
 rename_i hc
 obtain ⟨ca, cb⟩ := hc
 cases hs
 obtain ⟨rfl, hla⟩ := zD ha
 obtain ⟨rfl, hlb⟩ := zD hb
 refine ⟨by simp [lf103], ?_⟩
 obtain ⟨G, hG⟩ : ∃ t, t = Nat.gcd a b := ⟨_, rfl⟩
 rw [← hG]
 simp [lf103]
 simp only [lf103_B0, zr]
 refine zo (fun fr H => ∃ m n : Nat, len m ≤ 90000 ∧ len n ≤ 90000 ∧ Nat.gcd m n = G ∧ H = [] ∧ fr 0 = .p (.lst ((zc m).map u64)) ∧ fr 1 = .p (.lst ((zc n).map u64)))
  (fun fr _ => match fr 1 with | .p (.lst es) => (match vq es with | some n => n | none => 0) | _ => 0) ⟨a, b, ca, cb, hG.symm, rfl, by simp, by simp⟩ ?_
 rintro fr H ⟨m, n, hm, hn, hg, rfl, h0, h1⟩
 have ln : (zc n).length = len n := rfl
 by_cases hz : n = 0
 ·subst hz
  rw [Nat.gcd_zero_right] at hg
  subst hg
  simp [h0, h1, zy, wJ, jK]
 ·have hln : len n ≠ 0 := fun e => hz (qc.1 e)
  have hlI : (0 : Int) < len n := by omega
  have hlN : 0 < len n := by omega
  have hq := cL hm (show len n ≤ 100000 by omega) hz
  have hr : len (m % n) ≤ 90000 := Nat.le_trans (qu (Nat.le_of_lt (Nat.mod_lt _ (Nat.pos_of_ne_zero hz)))) hn
  have hd1 := zM (show len n ≤ 100000 by omega)
  have hd2 := zM (show len (m % n) ≤ 100000 by omega)
  obtain ⟨r, hrr⟩ : ∃ t, t = m % n := ⟨_, rfl⟩
  rw [← hrr] at hq hr hd2
  simp [h0, h1, ln, hlN, hq, hd1, hd2, Trg_mu, Trg_fn]
  refine ⟨⟨n, hn, r, hr, ?_, rfl, rfl⟩, by rw [hrr]; exact Nat.mod_lt _ (Nat.pos_of_ne_zero hz)⟩
  rw [hrr, Nat.gcd_comm, ← Nat.gcd_rec, Nat.gcd_comm]
  exact hg
theorem s7 {n : Nat} (h : len n ≤ 100000) : qM [.lst ((zc n).map u64)] = some (.lst ((zc n).map u64)) := by
 rw [vY (zC n) (by have : (zc n).length = len n := rfl; omega), zx]
def tc : List PVal → Option PVal
 | [.bool s, .lst xs, .lst ys] => match vq xs, vq ys with | some a, some b => if b ≠ 0 ∧ len a ≤ 80000 ∧ len b ≤ 80000 then some (ofQ (mkRat (zOf s a) b)).enc else none | _, _ => none
 | _ => none
theorem sMade_num (s : Bool) {a b : Nat} (ha : len a ≤ 80000) (hb : len b ≤ 80000) (h0 : b ≠ 0) : tc [.bool s, .lst ((zc a).map u64), .lst ((zc b).map u64)] = some (ofQ (mkRat (zOf s a) b)).enc := by
 simp only [tc, zM (show len a ≤ 100000 by omega), zM (show len b ≤ 100000 by omega)]
 rw [if_pos ⟨h0, ha, hb⟩]
def Trq : Tab := ((Tab.none.with 103 (za ti)).with 104 (za bd)).with 66 (za qM)
theorem Trq_ok : TabOk Tryz.prog base Trq := Tab.with_ok (Tab.with_ok (Tab.with_ok Tab.none_ok rgcd_ok) rdiv_ok) bk
theorem Trq_mu (f : FuncId) (a : List AVal) (H : zb) : Trq.mu f a H = none := (rfl)
theorem Trq_fns : Trq.fn 103 = za ti ∧ Trq.fn 104 = za bd ∧ Trq.fn 66 = za qM := ⟨rfl, rfl, rfl⟩
theorem rmade_ok : zH Tryz.prog base 64 (za tc) := by
 refine zd zE Trq_ok ze low64 fun args z hs hf => ?_
 unfold tc at hs
 split at hs
 case h_2 => cases hs
 rename_i s xs ys
 split at hs
 case h_2 => cases hs
 rename_i a b ha hb
 split at hs
 case isFalse => cases hs
 rename_i hc
 obtain ⟨h0, la, lb⟩ := hc
 obtain ⟨rfl, _⟩ := zD ha
 obtain ⟨rfl, _⟩ := zD hb
 cases hs
 refine ⟨by simp [lf64], ?_⟩
 rw [ofQ_mk s a h0]
 have g1 := sGcdR_num (a := a) (b := b) (by omega) (by omega)
 have hgl : len (Nat.gcd a b) ≤ 80000 := Nat.le_trans (qu (Nat.gcd_le_right _ (Nat.pos_of_ne_zero h0))) lb
 have hg0 : Nat.gcd a b ≠ 0 := fun e => h0 (Nat.gcd_eq_zero_iff.1 e).2
 obtain ⟨g, hg⟩ : ∃ g, g = Nat.gcd a b := ⟨_, rfl⟩
 rw [← hg] at g1 hgl hg0 ⊢
 have q1 := cL (a := a) (b := g) (by omega) (by omega) hg0
 have q2 := cL (a := b) (b := g) (by omega) (by omega) hg0
 have hm : len (a / g) ≤ 80000 := Nat.le_trans (qu (Nat.div_le_self _ _)) la
 have hk : len (b / g) ≤ 80000 := Nat.le_trans (qu (Nat.div_le_self _ _)) lb
 have t1 := s7 (n := a / g) (by omega)
 have t2 := s7 (n := b / g) (by omega)
 obtain ⟨m, hm'⟩ : ∃ m, m = a / g := ⟨_, rfl⟩
 obtain ⟨k, hk'⟩ : ∃ m, m = b / g := ⟨_, rfl⟩
 rw [← hm'] at q1 t1 ⊢
 rw [← hk'] at q2 t2 ⊢
 simp only [Fr.enc]
 cases s <;> simp [lf64, cm, g1, q1, q2, t1, t2, Trq_mu, Trq_fns] <;> exact decide_eq_decide.2 Iff.rfl
def Trn : Tab := (Tab.none.with 63 (za sIV)).with 64 (za tc)
theorem Trn_ok : TabOk Tryz.prog base Trn := Tab.with_ok (Tab.with_ok Tab.none_ok iF) rmade_ok
theorem fB (f : FuncId) (a : List AVal) (H : zb) : Trn.mu f a H = none := (rfl)
theorem pd : Trn.fn 63 = za sIV ∧ Trn.fn 64 = za tc := ⟨rfl, rfl⟩
theorem rnew_ok : zH Tryz.prog base 37 (za pN) := by
 refine zd zE Trn_ok ze low37 fun args z hs hf => ?_
 unfold pN at hs
 split at hs
 case h_2 => cases hs
 rename_i s xs t ys
 split at hs
 case h_2 => cases hs
 rename_i a b ha hb
 obtain ⟨rfl, wa⟩ := zI ha
 obtain ⟨rfl, wb⟩ := zI hb
 cases hs
 refine ⟨by simp [lf37], ?_⟩
 have va := be (s := s) wa
 have vb := be (s := t) wb
 unfold newF
 cases oa : okI s a with
 | false => rw [oa] at va; simp [lf37, va, qa, zF, Fr.enc, fB, pd]
 | true =>
  rw [oa] at va
  cases ob : okI t b with
  | false => rw [ob] at vb; simp [lf37, va, vb, qa, zF, Fr.enc, fB, pd]
  | true =>
   rw [ob] at vb
   by_cases hb0 : b = []
   ·subst hb0
    simp only [List.map_nil] at vb
    simp [lf37, va, vb, qa, zF, Fr.enc, fB, pd]
   ·obtain ⟨z, lz, rfl, rfl⟩ := rr oa
    obtain ⟨w, lw, rfl, rfl⟩ := rr ob
    rw [yV, yV]
    have hw0 : w.natAbs ≠ 0 := fun e => hb0 (by rw [e, zy])
    have hl := ga hw0
    have hS : Sm 64 (Rat.divInt z w) := mE lz lw (by omega)
    rw [bB hS]
    unfold zl at lz lw
    have L := sMade_num (decide (z < 0) != decide (w < 0)) (a := z.natAbs) (b := w.natAbs) (by omega) (by omega) hw0
    rw [ma] at L
    obtain ⟨R, hR⟩ : ∃ R, R = ofQ (Rat.divInt z w) := ⟨_, rfl⟩
    rw [← hR] at L ⊢
    obtain ⟨s, hs⟩ : ∃ s, s = decide (z < 0) := ⟨_, rfl⟩
    obtain ⟨t, ht⟩ : ∃ s, s = decide (w < 0) := ⟨_, rfl⟩
    rw [← hs] at va L ⊢
    rw [← ht] at vb L ⊢
    have hb : (s != t) = !(s == t) := by cases s <;> cases t <;> rfl
    simp only [qa, Fr.enc] at L ⊢
    simp [lf37, va, vb, cm, hl, hb0, L, ← hb, fB, pd]
def Tro : Tab := (Tab.none.with 38 (za pS)).with 37 (za pN)
theorem Tro_ok : TabOk Tryz.prog base Tro := Tab.with_ok (Tab.with_ok Tab.none_ok riof_ok) rnew_ok
theorem Tro_mu (f : FuncId) (a : List AVal) (H : zb) : Tro.mu f a H = none := (rfl)
theorem Tro_fns : Tro.fn 38 = za pS ∧ Tro.fn 37 = za pN := ⟨rfl, rfl⟩
theorem rofR_ok : zH Tryz.prog base 19 (za cN) := by
 refine zd zE Tro_ok ze low19 fun args z hs hf => ?_
 unfold cN at hs
 split at hs
 case h_2 => cases hs
 rename_i n d
 split at hs
 case isFalse => cases hs
 rename_i hc
 obtain ⟨⟨n1, n2⟩, d1, d2⟩ := hc
 cases hs
 refine ⟨by simp [lf19], ?_⟩
 by_cases h0 : d = 0
 ·subst h0
  have o1 : pS [.int .i64 0] = some (iN 0) := bR (by decide) (by decide)
  have o2 := sIOf_one
  have N := pM (z := 0) (w := 1) (Nat.le_trans (pi (n := 0) (by decide) (by decide)) (by omega)) (by rw [zl_one]; omega) (by decide)
  rw [lP, show ((0 : Int) : Rat) = 0 from rfl, bB (by refine ⟨?_, ?_⟩; rw [Rat.zero_num]; show len 0 ≤ 64; rw [rI]; omega; rw [Rat.zero_den, nU]; omega)] at N
  rw [Rat.divInt_zero]
  obtain ⟨R, hR⟩ : ∃ R, R = ofQ 0 := ⟨_, rfl⟩
  rw [← hR] at N ⊢
  simp only [qa, Fr.enc] at N ⊢
  simp [lf19, o1, o2, N, Tro_mu, Tro_fns]
 ·have hb : (d == 0) = false := beq_false_of_ne h0
  have o1 := bR n1 n2
  have o2 := bR d1 d2
  have z1 := pi n1 n2
  have z2 := pi d1 d2
  have N := pM (z := n) (w := d) (by omega) (by omega) h0
  rw [bB (mE (k := 64) (by omega) (by omega) (by omega))] at N
  obtain ⟨R, hR⟩ : ∃ R, R = ofQ (Rat.divInt n d) := ⟨_, rfl⟩
  rw [← hR] at N ⊢
  simp only [qa, Fr.enc] at N ⊢
  simp [lf19, hb, o1, o2, N, Tro_mu, Tro_fns]
theorem sG {α} {s : List α} {i : Nat} {c : α} (h : s[i]? = some c) : s.take (i + 1) = s.take i ++ [c] := by
 rw [List.take_add_one, h]; rfl
end Go.Proofs.YtgbjjikaenlkmaaGreat

namespace Go.Proofs.YtgbjjikaenlkmaaGreat
open Go Go.Abs Go.Limbs
set_option maxRecDepth 20000
structure Pa where
 c : Fr
 t : Int
structure Po where
 ps : List Pa
 c : Fr
def Pa.wf (x : Pa) : Prop := x.c.wf
def Pa.enc (x : Pa) : PVal := .agg [.bool x.c.s, .lst (x.c.n.map u64), .lst (x.c.d.map u64), .int .i64 x.t]
def xe (l : List Pa) : Prop := ∀ x ∈ l, x.wf
def Po.wf (p : Po) : Prop := xe p.ps ∧ p.c.wf
def Po.enc (p : Po) : PVal := .agg [.lst (p.ps.map Pa.enc), .bool p.c.s, .lst (p.c.n.map u64), .lst (p.c.d.map u64)]
def eW : PVal → Option Pa
 | .agg [.bool s, .lst xs, .lst ys, .int .i64 t] => match jz xs, jz ys with | some l, some m => some ⟨⟨s, l, m⟩, t⟩ | _, _ => none
 | _ => none
theorem decPa_enc {x : Pa} (h : x.wf) : eW x.enc = some x := by simp only [eW, Pa.enc, zY h.1, zY h.2]
theorem lQ {v : PVal} {x : Pa} (h : eW v = some x) : v = x.enc ∧ x.wf := by
 unfold eW at h
 split at h
 ·rename_i s xs ys t
  split at h
  ·rename_i l m hl hm
   cases h
   obtain ⟨rfl, wl⟩ := zI hl
   obtain ⟨rfl, wm⟩ := zI hm
   exact ⟨rfl, wl, wm⟩
  ·cases h
 ·cases h
def rY : List PVal → Option (List Pa)
 | [] => some []
 | v :: r => match eW v, rY r with | some x, some l => some (x :: l) | _, _ => none
theorem mo : ∀ {l : List Pa}, xe l → rY (l.map Pa.enc) = some l
 | [], _ => rfl
 | x :: r, h => by simp only [List.map_cons, rY, decPa_enc (h x (by simp)), mo (l := r) (fun y hy => h y (by simp [hy]))]
theorem dv : ∀ {vs : List PVal} {l : List Pa}, rY vs = some l → vs = l.map Pa.enc ∧ xe l
 | [], l, h => by cases h; exact ⟨rfl, fun x hx => by cases hx⟩
 | v :: r, l, h => by
  unfold rY at h
  split at h
  ·rename_i x m hx hm
   cases h
   obtain ⟨rfl, wx⟩ := lQ hx
   obtain ⟨rfl, wm⟩ := dv hm
   refine ⟨rfl, fun y hy => ?_⟩
   rcases List.mem_cons.1 hy with rfl | hy
   ·exact wx
   ·exact wm y hy
  ·cases h
def ua : PVal → Option Po
 | .agg [.lst vs, .bool s, .lst xs, .lst ys] => match rY vs, jz xs, jz ys with | some ps, some l, some m => some ⟨ps, ⟨s, l, m⟩⟩ | _, _, _ => none
 | _ => none
theorem jO {p : Po} (h : p.wf) : ua p.enc = some p := by simp only [ua, Po.enc, mo h.1, zY h.2.1, zY h.2.2]
theorem vV {v : PVal} {p : Po} (h : ua v = some p) : v = p.enc ∧ p.wf := by
 unfold ua at h
 split at h
 ·rename_i vs s xs ys
  split at h
  ·rename_i ps l m hp hl hm
   cases h
   obtain ⟨rfl, wp⟩ := dv hp
   obtain ⟨rfl, wl⟩ := zI hl
   obtain ⟨rfl, wm⟩ := zI hm
   exact ⟨rfl, wp, wl, wm⟩
  ·cases h
 ·cases h
def g1 (g : Po → PVal) : List PVal → Option PVal
 | [a] => match ua a with | some p => some (g p) | none => none
 | _ => none
def g2 (g : Po → Po → PVal) : List PVal → Option PVal
 | [a, b] => match ua a, ua b with | some p, some q => some (g p q) | _, _ => none
 | _ => none
def gk (g : Po → Fr → PVal) : List PVal → Option PVal
 | [a, b] => match ua a, sP b with | some p, some k => some (g p k) | _, _ => none
 | _ => none
def gi (g : Po → Int → PVal) : List PVal → Option PVal
 | [a, .int .i64 t] => match ua a with | some p => some (g p t) | _ => none
 | _ => none
theorem g1_at {g : Po → PVal} {p : Po} (h : p.wf) : g1 g [p.enc] = some (g p) := by simp only [g1, jO h]
theorem g1_some {g : Po → PVal} {args : List PVal} {z : PVal} (h : g1 g args = some z) : ∃ p : Po, p.wf ∧ args = [p.enc] ∧ z = g p := by
 unfold g1 at h
 split at h
 ·split at h
  ·rename_i p hp
   obtain ⟨rfl, w⟩ := vV hp
   cases h
   exact ⟨p, w, rfl, rfl⟩
  ·cases h
 ·cases h
def Po.few (p : Po) : Bool := decide (p.ps.length ≤ 1000000)
def g2s (g : Po → Po → PVal) : List PVal → Option PVal
 | [a, b] => match ua a, ua b with | some p, some q => if (p.few && q.few) = true then some (g p q) else none | _, _ => none
 | _ => none
def gks (g : Po → Fr → PVal) : List PVal → Option PVal
 | [a, b] => match ua a, sP b with | some p, some k => if p.few = true then some (g p k) else none | _, _ => none
 | _ => none
theorem x4 {p : Po} (h : p.few = true) : p.ps.length ≤ 1000000 := of_decide_eq_true h
theorem g2s_at {g : Po → Po → PVal} {p q : Po} (h : p.wf) (h2 : q.wf) (f1 : p.few = true) (f2 : q.few = true) : g2s g [p.enc, q.enc] = some (g p q) := by simp only [g2s, jO h, jO h2, f1, f2, Bool.and_self, if_true]
theorem gks_at {g : Po → Fr → PVal} {p : Po} {k : Fr} (h : p.wf) (h2 : k.wf) (f1 : p.few = true) : gks g [p.enc, k.enc] = some (g p k) := by simp only [gks, jO h, bG h2, f1, if_true]
theorem g2s_some {g : Po → Po → PVal} {args : List PVal} {z : PVal} (h : g2s g args = some z) : ∃ p q : Po, p.wf ∧ q.wf ∧ p.few = true ∧ q.few = true ∧ args = [p.enc, q.enc] ∧ z = g p q := by
 unfold g2s at h
 split at h
 ·split at h
  ·rename_i p q hp hq
   obtain ⟨rfl, w⟩ := vV hp
   obtain ⟨rfl, w2⟩ := vV hq
   split at h
   ·rename_i hf
    rw [Bool.and_eq_true] at hf
    cases h; exact ⟨p, q, w, w2, hf.1, hf.2, rfl, rfl⟩
   ·cases h
  ·cases h
 ·cases h
theorem gks_some {g : Po → Fr → PVal} {args : List PVal} {z : PVal} (h : gks g args = some z) : ∃ (p : Po) (k : Fr), p.wf ∧ k.wf ∧ p.few = true ∧ args = [p.enc, k.enc] ∧ z = g p k := by
 unfold gks at h
 split at h
 ·split at h
  ·rename_i p q hp hq
   obtain ⟨rfl, w⟩ := vV hp
   obtain ⟨rfl, w2⟩ := uW hq
   split at h
   ·cases h; exact ⟨p, q, w, w2, by assumption, rfl, rfl⟩
   ·cases h
  ·cases h
 ·cases h
def wD : Int → List Pa → Bool
 | _, [] => true
 | l, x :: r => decide (l < x.t) && x.c.ok && !decide (x.c.n = []) && wD x.t r
def Po.ok (p : Po) : Bool := wD (-1) p.ps && p.c.ok
theorem jk {x : Fr} (h : x.ok = true) : (z9 x == 0) = decide (x.n = []) := by
 obtain ⟨q, hq, rfl⟩ := Fr.ok_of h
 rw [uL hq]
 have e : ((ofQ q).n = []) ↔ q = 0 := by
  show zc q.num.natAbs = [] ↔ q = 0
  rw [jr, Int.natAbs_eq_zero, Rat.num_eq_zero]
 rw [show decide ((ofQ q).n = []) = decide (q = 0) from decide_eq_decide.2 e]
 rw [Bool.eq_iff_iff, beq_iff_eq, decide_eq_true_eq]
 exact cC
def zPo : Po := ⟨[], zF⟩
theorem j8 : zPo.wf := ⟨fun x hx => (by cases hx), dD⟩
def gW (r : Po × Nat) : PVal := .tup [r.1.enc, .int .i64 r.2]
def rn (p : Po) : PVal := .bool p.ok
def qB : List Pa → List Pa → Option (List Pa)
 | [], r => some r
 | x :: l, [] => some (x :: l)
 | x :: l, y :: r =>
  if x.t < y.t then (qB l (y :: r)).map (x :: ·)
  else if y.t < x.t then (qB (x :: l) r).map (y :: ·)
  else if (j6 x.c y.c).2 = 0 then
   (qB l r).map (fun m => if (j6 x.c y.c).1.n = [] then m else ⟨(j6 x.c y.c).1, x.t⟩ :: m)
  else none
termination_by l r => l.length + r.length
def cn (c : Fr) : Option (List Pa) → Po × Nat
 | some ps => (⟨ps, c⟩, 0)
 | none => (zPo, 4)
def aE (p q : Po) : Po × Nat :=
 if p.ok && q.ok then (if (j6 p.c q.c).2 = 0 then cn (j6 p.c q.c).1 (qB p.ps q.ps) else (zPo, 4)) else (zPo, 1)
def kd (k : Fr) : List Pa → Option (List Pa)
 | [] => some []
 | x :: l => if (uD x.c k).2 = 0 then (kd k l).map (⟨(uD x.c k).1, x.t⟩ :: ·) else none
def jS (p : Po) (k : Fr) : Po × Nat :=
 if p.ok && k.ok then (if (uD p.c k).2 = 0 then (if k.n = [] then (⟨[], (uD p.c k).1⟩, 0) else cn (uD p.c k).1 (kd k p.ps)) else (zPo, 4)) else (zPo, 1)
instance : DecidableEq Fr := fun x y => if h : x.s = y.s ∧ x.n = y.n ∧ x.d = y.d then .isTrue (by cases x; cases y; obtain ⟨a, b, c⟩ := h; simp_all) else .isFalse (fun e => h (by rw [e]; exact ⟨rfl, rfl, rfl⟩))
instance : DecidableEq Pa := fun x y => if h : x.c = y.c ∧ x.t = y.t then .isTrue (by cases x; cases y; obtain ⟨a, b⟩ := h; simp_all) else .isFalse (fun e => h (by rw [e]; exact ⟨rfl, rfl⟩))
instance : DecidableEq Po := fun x y => if h : x.ps = y.ps ∧ x.c = y.c then .isTrue (by cases x; cases y; obtain ⟨a, b⟩ := h; simp_all) else .isFalse (fun e => h (by rw [e]; exact ⟨rfl, rfl⟩))
end Go.Proofs.YtgbjjikaenlkmaaGreat

namespace Go.Proofs.YtgbjjikaenlkmaaGreat
open Go Go.Abs
def lf44_B0 : LCode := .block 0 (.loop (.seq (.seq (.region [Om 35 6,Oa 36 (.len (Tm 35)),Oa 37 (.bin .gtr (Tm 36) (Kz 0)),Om 38 37,Oo 39 38 7,Od 40 38 (.len (Tm 39)),Od 41 38 (.bin .gtr (Tm 40) (Kz 0)),Ou 42 38 41]) (.cond (Tm 42) (.skip) (.exit 0))) (.block 1 (.seq (.region [Oa 8 (.newv 4 93 (.cst (.agg [.p (.bool false),.tight [],.tight [],.p (.int .i64 0)])))]) (.seq (.block 2 (.seq (.regionD [Om 70 7,Oa 71 (.len (Tm 70)),Oa 72 (.bin .eql (Tm 71) (Kz 0)),Om 73 72,Oo 74 73 6,Od 75 73 (.len (Tm 74)),Od 76 73 (.bin .gtr (Tm 75) (Kz 0)),Oo 77 73 76,Oj 78 77 6,Oc 79 77 (.iadr 4 (Tm 78) (Kz 0)),Oc 80 77 (.fadr 3 (Tm 79)),Oc 81 77 (.load 1 false (Tm 80)),Oj 82 77 7,Oc 83 77 (.iadr 4 (Tm 82) (Kz 0)),Oc 84 77 (.fadr 3 (Tm 83)),Oc 85 77 (.load 1 false (Tm 84)),Oc 86 77 (.bin .lss (Tm 81) (Tm 85)),Od 87 73 (.pick (Tm 77) (Tm 86) Kg),Ou 88 73 87,Om 69 88]) (.cond (Tm 69) (.regionW [(Om 89 6,.f),(Oa 90 (.iadr 4 (Tm 89) (Kz 0)),.f),(Oz 91 0 90,.f),(Oq 92 3 true 91,.f),(Oa 93 (.call 75 [Tm 92]),.s),(Om 94 6,.f),(Oa 95 (.iadr 4 (Tm 94) (Kz 0)),.s),(Oz 96 3 95,.s),(Oq 97 1 false 96,.s),(Oa 98 (.build (.agg [.p (.bool false),.tight [],.tight [],.p (.int .i64 0)]) [(0,3,(Tm 93)),(3,1,(Tm 97))]),.f),(Om 99 6,.f),(Oa 100 (.slSl 4 (Tm 99) (some (Kz 1)) none none),.s),(Oy 4 8 98,.s),(Om 6 100,.f)]) (.seq (.regionD [Om 102 6,Oa 103 (.len (Tm 102)),Oa 104 (.bin .eql (Tm 103) (Kz 0)),Om 105 104,Oo 106 105 7,Od 107 105 (.iadr 4 (Tm 106) (Kz 0)),Od 108 105 (.fadr 3 (Tm 107)),Od 109 105 (.load 1 false (Tm 108)),Oo 110 105 6,Od 111 105 (.iadr 4 (Tm 110) (Kz 0)),Od 112 105 (.fadr 3 (Tm 111)),Od 113 105 (.load 1 false (Tm 112)),Od 114 105 (.bin .lss (Tm 109) (Tm 113)),Ou 115 105 114,Om 101 115]) (.cond (Tm 101) (.regionW [(Om 116 7,.f),(Oa 117 (.iadr 4 (Tm 116) (Kz 0)),.f),(Oz 118 0 117,.f),(Oq 119 3 true 118,.f),(Oa 120 (.call 75 [Tm 119]),.s),(Om 121 7,.f),(Oa 122 (.iadr 4 (Tm 121) (Kz 0)),.s),(Oz 123 3 122,.s),(Oq 124 1 false 123,.s),(Oa 125 (.build (.agg [.p (.bool false),.tight [],.tight [],.p (.int .i64 0)])
 [(0,3,(Tm 120)),(3,1,(Tm 124))]),.f),(Om 126 7,.f),(Oa 127 (.slSl 4 (Tm 126) (some (Kz 1)) none none),.s),(Oy 4 8 125,.s),(Om 7 127,.f)]) (.seq (.region [Om 43 6,Oa 44 (.iadr 4 (Tm 43) (Kz 0)),Oz 45 3 44,Oq 46 1 false 45,Oz 47 3 8,Oy 1 47 46]) (.seq (.seq (.regionW [(Om 49 6,.f),(Oa 50 (.iadr 4 (Tm 49) (Kz 0)),.f),(Oz 51 0 50,.f),(Oq 52 3 true 51,.f),(Om 53 7,.f),(Oa 54 (.iadr 4 (Tm 53) (Kz 0)),.f),(Oz 55 0 54,.f),(Oq 56 3 true 55,.f),(Oa 57 (.call 74 [Tm 52,Tm 56]),.f),(Om 48 57,.f),(Ox 58 48 0,.f),(Ox 59 48 1,.f),(Oz 60 0 8,.f),(Oy 3 60 58,.f),(Om 5 59,.f)]) (.seq (.region [Om 61 5,Oa 62 (.bin .neq (Tm 61) (Kz 0))]) (.cond (Tm 62) (.seq (.region [Oa 63 (.build Zp []),Om 64 5,Oy 4 4 63,Om 5 64]) (.ret)) (.skip)))) (.regionD [Om 65 6,Oa 66 (.slSl 4 (Tm 65) (some (Kz 1)) none none),Om 67 7,Oa 68 (.slSl 4 (Tm 67) (some (Kz 1)) none none),Om 6 66,Om 7 68])))))))) (.seq (.region [Oz 128 0 8,Oq 129 3 true 128,Oa 130 (.call 71 [Tm 129]),Oa 131 (.bin .neq (Tm 130) (Kz 0))]) (.cond (Tm 131) (.region [Oz 132 0 4,Oq 133 1 false 132,Oq 134 4 true 8,Oa 135 (.buildSl 4 93 (.agg [.p (.bool false),.tight [],.tight [],.p (.int .i64 0)]) 1 [(0,(Tm 134))]),Oa 136 (.app 4 64 93 (Tm 133) (Tm 135)),Oz 137 0 4,Oy 1 137 136]) (.skip))))))))
def lf44 : LFunc := ⟨139,[.cell 4 4 true,.slot 5],.seq (.region [Oa 2 (.newv 4 76 (Tm 0)),Oa 3 (.newv 4 76 (Tm 1)),Oa 4 (.newv 4 76 (.cst Zp)),Oa 5 (.mov (Kz 0))]) (.seq (.seq (.region [Oq 9 4 true 2,Oa 10 (.call 68 [Tm 9]),Oa 11 (.un .not (Tm 10)),Om 12 11,Od 13 12 (.load 4 true (Tm 3)),Od 14 12 (.call 68 [Tm 13]),Od 15 12 (.un .not (Tm 14)),Ou 16 12 15]) (.cond (Tm 16) (.seq (.region [Oq 17 4 true 4,Oy 4 4 17,Oa 5 (.mov (Kz 1))]) (.ret)) (.skip))) (.seq (.seq (.region [Oz 19 1 2,Oq 20 3 true 19,Oz 21 1 3,Oq 22 3 true 21,Oa 23 (.call 74 [Tm 20,Tm 22]),Om 18 23,Ox 24 18 0,Ox 25 18 1,Oz 26 1 4,Oy 3 26 24,Om 5 25]) (.seq (.region [Om 27 5,Oa 28 (.bin .neq (Tm 27) (Kz 0))]) (.cond (Tm 28) (.seq (.region [Oa 29 (.build Zp []),Om 30 5,Oy 4 4 29,Om 5 30]) (.ret)) (.skip)))) (.seq (.regionD [Oz 31 0 2,Oq 32 1 false 31,Oz 33 0 3,Oq 34 1 false 33,Om 6 32,Om 7 34]) (.seq (lf44_B0) (.seq (.region [Oq 138 4 true 4,Oy 4 4 138,Oa 5 (.mov (Kz 0))]) (.ret))))))⟩
theorem low44 : zi Tryz.prog gl0 44 = some lf44 := Go.Abs.lowF (by kernel_rfl)
def lf41_B0 : LCode := .block 0 (.loop (.seq (.region [Oa 37 (.bin .lss (Tm 36) (Tm 35))]) (.seq (.cond (Tm 37) (.skip) (.exit 0)) (.seq (.block 1 (.seq (.region [Oa 38 (.iadr 4 (Tm 34) (Tm 36)),Oq 39 4 true 38,Oa 7 (.newv 4 93 (.cst (.agg [.p (.bool false),.tight [],.tight [],.p (.int .i64 0)]))),Oy 4 7 39]) (.seq (.seq (.region [Oz 41 0 7,Oq 42 3 true 41,Oq 43 3 true 3,Oa 44 (.call 70 [Tm 42,Tm 43]),Om 40 44,Ox 45 40 0,Ox 46 40 1,Oz 47 0 7,Oy 3 47 45,Om 5 46]) (.seq (.region [Om 48 5,Oa 49 (.bin .neq (Tm 48) (Kz 0))]) (.cond (Tm 49) (.seq (.region [Oa 50 (.build Zp []),Om 51 5,Oy 4 4 50,Om 5 51]) (.ret)) (.skip)))) (.region [Oz 52 0 4,Oq 53 1 false 52,Oq 54 4 true 7,Oa 55 (.buildSl 4 93 (.agg [.p (.bool false),.tight [],.tight [],.p (.int .i64 0)]) 1 [(0,(Tm 54))]),Oa 56 (.app 4 64 93 (Tm 53) (Tm 55)),Oz 57 0 4,Oy 1 57 56])))) (.region [Oa 58 (.bin .add (Tm 36) (Kz 1)),Om 36 58])))))
def lf41 : LFunc := ⟨60,[.cell 4 4 true,.slot 5],.seq (.region [Oa 2 (.newv 4 76 (Tm 0)),Oa 3 (.newv 3 33 (Tm 1)),Oa 4 (.newv 4 76 (.cst Zp)),Oa 5 (.mov (Kz 0))]) (.seq (.seq (.region [Oq 8 4 true 2,Oa 9 (.call 68 [Tm 8]),Oa 10 (.un .not (Tm 9)),Om 11 10,Od 12 11 (.load 3 true (Tm 3)),Od 13 11 (.call 69 [Tm 12]),Od 14 11 (.un .not (Tm 13)),Ou 15 11 14]) (.cond (Tm 15) (.seq (.region [Oq 16 4 true 4,Oy 4 4 16,Oa 5 (.mov (Kz 1))]) (.ret)) (.skip))) (.seq (.seq (.region [Oz 18 1 2,Oq 19 3 true 18,Oq 20 3 true 3,Oa 21 (.call 70 [Tm 19,Tm 20]),Om 17 21,Ox 22 17 0,Ox 23 17 1,Oz 24 1 4,Oy 3 24 22,Om 5 23]) (.seq (.region [Om 25 5,Oa 26 (.bin .neq (Tm 25) (Kz 0))]) (.cond (Tm 26) (.seq (.region [Oa 27 (.build Zp []),Om 28 5,Oy 4 4 27,Om 5 28]) (.ret)) (.skip)))) (.seq (.seq (.region [Oq 29 3 true 3,Oa 30 (.call 71 [Tm 29]),Oa 31 (.bin .eql (Tm 30) (Kz 0))]) (.cond (Tm 31) (.seq (.region [Oq 32 4 true 4,Oy 4 4 32,Oa 5 (.mov (Kz 0))]) (.ret)) (.skip))) (.seq (.seq (.region [Oz 33 0 2,Oq 34 1 false 33,Oa 35 (.len (Tm 34)),Oa 36 (.mov (Kz 0))]) (lf41_B0)) (.seq (.region [Oq 59 4 true 4,Oy 4 4 59,Oa 5 (.mov (Kz 0))]) (.ret))))))⟩
theorem low41 : zi Tryz.prog gl0 41 = some lf41 := Go.Abs.lowF (by kernel_rfl)
def lf68_B0 : LCode := .block 0 (.loop (.seq (.region [Oa 9 (.bin .lss (Tm 8) (Tm 7))]) (.seq (.cond (Tm 9) (.skip) (.exit 0)) (.seq (.block 1 (.seq (.region [Om 10 8,Oa 11 (.iadr 4 (Tm 6) (Tm 8)),Oq 12 4 true 11,Oa 4 (.newv 4 93 (.cst (.agg [.p (.bool false),.tight [],.tight [],.p (.int .i64 0)]))),Om 3 10,Oy 4 4 12]) (.seq (.regionD [Oz 13 3 4,Oq 14 1 false 13,Oa 15 (.bin .lss (Tm 14) (Kz 0)),Om 16 15,Oo 17 16 3,Od 18 16 (.bin .gtr (Tm 17) (Kz 0)),Oo 19 16 18,Oc 20 19 (.fadr 3 (Tm 4)),Oc 21 19 (.load 1 false (Tm 20)),Oc 22 19 (.fadr 0 (Tm 1)),Oc 23 19 (.load 1 false (Tm 22)),Oj 24 19 3,Oc 25 19 (.bin .sub (Tm 24) (Kz 1)),Oc 26 19 (.iadr 4 (Tm 23) (Tm 25)),Oc 27 19 (.fadr 3 (Tm 26)),Oc 28 19 (.load 1 false (Tm 27)),Oc 29 19 (.bin .leq (Tm 21) (Tm 28)),Od 30 16 (.pick (Tm 19) (Tm 29) Kg),Ou 31 16 30,Om 32 31,Od 33 32 (.fadr 0 (Tm 4)),Od 34 32 (.load 3 true (Tm 33)),Od 35 32 (.call 69 [Tm 34]),Od 36 32 (.un .not (Tm 35)),Ou 37 32 36,Om 38 37,Od 39 38 (.fadr 0 (Tm 4)),Od 40 38 (.load 3 true (Tm 39)),Od 41 38 (.call 71 [Tm 40]),Od 42 38 (.bin .eql (Tm 41) (Kz 0)),Ou 43 38 42]) (.cond (Tm 43) (.seq (.region [Oa 2 (.mov Kg)]) (.ret)) (.skip))))) (.region [Oa 44 (.bin .add (Tm 8) (Kz 1)),Om 8 44])))))
def lf68 : LFunc := ⟨48,[.slot 2],.seq (.region [Oa 1 (.newv 4 76 (Tm 0)),Oa 2 (.mov Kg)]) (.seq (.seq (.region [Oz 5 0 1,Oq 6 1 false 5,Oa 7 (.len (Tm 6)),Oa 8 (.mov (Kz 0))]) (lf68_B0)) (.seq (.region [Oz 45 1 1,Oq 46 3 true 45,Oa 47 (.call 69 [Tm 46]),Om 2 47]) (.ret)))⟩
theorem low68 : zi Tryz.prog gl0 68 = some lf68 := Go.Abs.lowF (by kernel_rfl)
def lf77_B0 : LCode := .block 0 (.loop (.seq (.region [Oa 13 (.bin .lss (Tm 12) (Tm 11))]) (.seq (.cond (Tm 13) (.skip) (.exit 0)) (.seq (.block 1 (.seq (.region [Oa 14 (.iadr 4 (Tm 10) (Tm 12)),Oq 15 4 true 14,Oa 4 (.newv 4 93 (.cst (.agg [.p (.bool false),.tight [],.tight [],.p (.int .i64 0)]))),Oy 4 4 15]) (.regionW [(Oz 16 0 2,.s),(Oq 17 1 false 16,.s),(Oz 18 0 4,.f),(Oq 19 3 true 18,.f),(Oa 20 (.call 75 [Tm 19]),.s),(Oz 21 3 4,.s),(Oq 22 1 false 21,.s),(Oa 23 (.build (.agg [.p (.bool false),.tight [],.tight [],.p (.int .i64 0)]) [(0,3,(Tm 20)),(3,1,(Tm 22))]),.f),(Oa 24 (.buildSl 4 93 (.agg [.p (.bool false),.tight [],.tight [],.p (.int .i64 0)]) 1 [(0,(Tm 23))]),.s),(Oa 25 (.app 4 64 93 (Tm 17) (Tm 24)),.f),(Oz 26 0 2,.f),(Oy 1 26 25,.f)]))) (.region [Oa 27 (.bin .add (Tm 12) (Kz 1)),Om 12 27])))))
def lf77 : LFunc := ⟨29,[.cell 2 4 true],.seq (.region [Oa 1 (.newv 4 76 (Tm 0)),Oa 2 (.newv 4 76 (.cst Zp))]) (.seq (.region [Oz 5 1 1,Oq 6 3 true 5,Oa 7 (.call 75 [Tm 6]),Oz 8 1 2,Oy 3 8 7]) (.seq (.seq (.region [Oz 9 0 1,Oq 10 1 false 9,Oa 11 (.len (Tm 10)),Oa 12 (.mov (Kz 0))]) (lf77_B0)) (.seq (.region [Oq 28 4 true 2,Oy 4 2 28]) (.ret))))⟩
theorem low77 : zi Tryz.prog gl0 77 = some lf77 := Go.Abs.lowF (by kernel_rfl)
def lf75 : LFunc := ⟨12,[.cell 2 3 true],.seq (.region [Oa 1 (.newv 3 33 (Tm 0)),Oa 2 (.newv 3 33 (.cst Zr))]) (.seq (.regionW [(Oz 3 0 1,.s),(Oq 4 1 false 3,.s),(Oz 5 1 1,.f),(Oq 6 1 false 5,.f),(Oa 7 (.call 117 [Tm 6]),.s),(Oz 8 2 1,.s),(Oq 9 1 false 8,.s),(Oa 10 (.call 117 [Tm 9]),.s),(Oa 11 (.build Zr [(0,1,(Tm 4)),(1,1,(Tm 7)),(2,1,(Tm 10))]),.f),(Oy 3 2 11,.f)]) (.ret))⟩
theorem low75 : zi Tryz.prog gl0 75 = some lf75 := Go.Abs.lowF (by kernel_rfl)
def lf81 : LFunc := ⟨24,[.slot 4],.seq (.region [Oa 2 (.newv 3 33 (Tm 0)),Oa 3 (.newv 3 33 (Tm 1)),Oa 4 (.mov Kg)]) (.seq (.region [Oz 5 0 2,Oq 6 1 false 5,Oz 7 0 3,Oq 8 1 false 7,Oa 9 (.eqB false (Tm 6) (Tm 8)),Om 10 9,Oc 11 10 (.fadr 1 (Tm 2)),Oc 12 10 (.load 1 false (Tm 11)),Oc 13 10 (.fadr 1 (Tm 3)),Oc 14 10 (.load 1 false (Tm 13)),Oc 15 10 (.call 119 [Tm 12,Tm 14]),Ot 16 10 15,Om 17 16,Oc 18 17 (.fadr 2 (Tm 2)),Oc 19 17 (.load 1 false (Tm 18)),Oc 20 17 (.fadr 2 (Tm 3)),Oc 21 17 (.load 1 false (Tm 20)),Oc 22 17 (.call 119 [Tm 19,Tm 21]),Ot 23 17 22,Om 4 23]) (.ret))⟩
theorem low81 : zi Tryz.prog gl0 81 = some lf81 := Go.Abs.lowF (by kernel_rfl)
def lf119_B0 : LCode := .block 0 (.loop (.seq (.region [Oa 14 (.bin .lss (Tm 13) (Tm 12))]) (.seq (.cond (Tm 14) (.skip) (.exit 0)) (.seq (.block 1 (.seq (.region [Om 15 13,Om 5 15]) (.seq (.regionD [Om 16 0,Om 17 5,Oa 18 (.iadr 1 (Tm 16) (Tm 17)),Oq 19 1 false 18,Om 20 1,Om 21 5,Oa 22 (.iadr 1 (Tm 20) (Tm 21)),Oq 23 1 false 22,Oa 24 (.bin .neq (Tm 19) (Tm 23))]) (.cond (Tm 24) (.seq (.region [Oa 4 (.mov Kg)]) (.ret)) (.skip))))) (.region [Oa 25 (.bin .add (Tm 13) (Kz 1)),Om 13 25])))))
def lf119 : LFunc := ⟨26,[.slot 4],.seq (.region [Oa 4 (.mov Kg)]) (.seq (.seq (.region [Om 6 0,Oa 7 (.len (Tm 6)),Om 8 1,Oa 9 (.len (Tm 8)),Oa 10 (.bin .neq (Tm 7) (Tm 9))]) (.cond (Tm 10) (.seq (.region [Oa 4 (.mov Kg)]) (.ret)) (.skip))) (.seq (.seq (.region [Om 11 0,Oa 12 (.len (Tm 11)),Oa 13 (.mov (Kz 0))]) (lf119_B0)) (.seq (.region [Oa 4 (.mov Kt)]) (.ret))))⟩
theorem low119 : zi Tryz.prog gl0 119 = some lf119 := Go.Abs.lowF (by kernel_rfl)
end Go.Proofs.YtgbjjikaenlkmaaGreat

namespace Go.Proofs.YtgbjjikaenlkmaaGreat
open Go Go.Abs Go.Limbs
variable {base : Prot}
set_option maxRecDepth 20000
attribute [local irreducible] vc
attribute [local simp] za zh freezeL fuel zk u64 au
def Tlv : Tab := (Tab.none.with 69 (za (f1 uZ))).with 71 (za (f1 vH))
theorem Tlv_ok : TabOk Tryz.prog base Tlv := Tab.with_ok (Tab.with_ok Tab.none_ok gU) dV
theorem dA (f : FuncId) (a : List AVal) (H : zb) : Tlv.mu f a H = none := (rfl)
theorem yN : Tlv.fn 69 = za (f1 uZ) ∧ Tlv.fn 71 = za (f1 vH) := ⟨rfl, rfl⟩
def jC (l : List Pa) (i : Nat) : Int := match i with | 0 => -1 | j + 1 => match l[j]? with | some x => x.t | none => -1
theorem iO {l : List Pa} {i : Nat} {x : Pa} (h : l[i]? = some x) : wD (jC l i) (l.drop i) = (decide (jC l i < x.t) && x.c.ok && !decide (x.c.n = []) && wD (jC l (i + 1)) (l.drop (i + 1))) := by
 have hi := (List.getElem?_eq_some_iff.1 h).1
 rw [List.drop_eq_getElem_cons hi, z3 h, wD]
 have : jC l (i + 1) = x.t := by simp only [jC, h]
 rw [this]
theorem tJ : zH Tryz.prog base 68 (za (g1 rn)) := by
 refine zd zE Tlv_ok ze low68 fun args z hs hf => ?_
 obtain ⟨p, wp, rfl, rfl⟩ := g1_some hs
 refine ⟨by simp [lf68], ?_⟩
 unfold rn
 have hc : f1 uZ [p.c.enc] = some (.bool p.c.ok) := vF wp.2
 simp only [Po.enc, Fr.enc] at hc ⊢
 have hlen : p.ps.length ≤ 9223372036854775807 := by
  have h1 := (Fits.agg (hf _ (List.mem_singleton.2 rfl))) _ (List.mem_cons_self ..)
  have h2 := h1.lst.1
  rw [List.length_map] at h2
  exact Nat.le_trans h2 (by decide)
 simp [lf68]
 simp only [lf68_B0, zr]
 obtain ⟨bx, hbx⟩ : ∃ b : Ent, b = ⟨4, 0, false, [.p p.enc], 76⟩ := ⟨_, rfl⟩
 simp only [Po.enc] at hbx
 rw [← hbx]
 refine zo (fun fr H => ∃ i : Nat, (∃ ex : zb, H = bx :: ex) ∧ i ≤ p.ps.length ∧ wD (-1) p.ps = wD (jC p.ps i) (p.ps.drop i) ∧ -1 ≤ jC p.ps i ∧ fr 1 = .optr 0 0 0 0 ∧ fr 6 = .p (.lst (p.ps.map Pa.enc)) ∧ fr 7 = .p (.int .i64 p.ps.length) ∧ fr 8 = .p (.int .i64 i)) (fun fr _ => p.ps.length - zA (fr 8))
  ⟨0, ⟨[], rfl⟩, by omega, rfl, Int.le_refl _, by simp, by simp, by simp, by simp⟩ ?_
 rintro fr H ⟨i, ⟨ex, rfl⟩, hi, hok, hge, f1', f6, f7, f8⟩
 by_cases h1 : i < p.ps.length
 ·obtain ⟨x, hx⟩ : ∃ x, p.ps[i]? = some x := ⟨_, List.getElem?_eq_getElem h1⟩
  have wx : x.c.wf := wp.1 x (List.mem_of_getElem? hx)
  have hv : f1 uZ [x.c.enc] = some (.bool x.c.ok) := vF wx
  have hsg : f1 vH [x.c.enc] = some (.int .i64 (z9 x.c)) := kZ wx
  simp only [Fr.enc] at hv hsg
  have hxe := z3 hx
  have hw := zs (i := i) (by omega)
  rw [iO hx] at hok
  have hlx : jC p.ps (i + 1) = x.t := by simp only [jC, hx]
  have bad : (decide (jC p.ps i < x.t) && x.c.ok && !decide (x.c.n = [])) = false → p.ok = false := fun h => by
   unfold Po.ok
   rw [hok, h]
   rfl
  have good : (decide (jC p.ps i < x.t) && x.c.ok && !decide (x.c.n = [])) = true → wD (-1) p.ps = wD (jC p.ps (i + 1)) (p.ps.drop (i + 1)) := fun h => by rw [hok, h]; rfl
  have h0 : i = 0 ∨ ∃ j y, i = j + 1 ∧ p.ps[j]? = some y ∧ jC p.ps i = y.t := by
   cases i with
   | zero => exact .inl rfl
   | succ j =>
    obtain ⟨y, hy⟩ : ∃ y, p.ps[j]? = some y := ⟨_, List.getElem?_eq_getElem (by omega)⟩
    exact .inr ⟨j, y, rfl, hy, by simp only [jC, hy]⟩
  by_cases ha : x.t < 0
  ·have hb := bad (by rw [decide_eq_false (show ¬ jC p.ps i < x.t by omega)]; rfl)
   rw [hb]
   simp [hbx, f6, f7, f8, h1, hxe, Pa.enc, ha]
  ·rcases h0 with rfl | ⟨j, y, rfl, hy, hlt⟩
   ·have hlt : jC p.ps 0 < x.t := by show (-1 : Int) < x.t; omega
    cases hvk : x.c.ok with
    | false =>
     rw [hvk] at hv
     rw [bad (by rw [hvk]; simp)]
     simp [hbx, f6, f7, f8, h1, hxe, Pa.enc, ha, hv, dA, yN]
    | true =>
     have hsn := jk hvk
     rw [hvk] at hv
     by_cases hn : x.c.n = []
     ·rw [decide_eq_true hn] at hsn
      rw [bad (by rw [decide_eq_true hn]; simp)]
      simp [hbx, f6, f7, f8, h1, hxe, Pa.enc, ha, hv, hsg, hsn, dA, yN]
     ·rw [decide_eq_false hn] at hsn
      have hg := good (by rw [decide_eq_true hlt, hvk, decide_eq_false hn]; rfl)
      simp [hbx, f1', f6, f7, f8, h1, hxe, Pa.enc, ha, hv, hsg, hsn, zA, dA, yN]
      have w1 : IntKind.i64.wrap 1 = 1 := by decide
      rw [w1]
      exact ⟨⟨1, by omega, hg, by rw [hlx]; omega, rfl⟩, by simp; omega⟩
   ·have hj := IntWalk.i64_in (((j + 1 : Nat) : Int) - 1) (by omega)
    have hj2 : ((j + 1 : Nat) : Int) - 1 = (j : Int) := by omega
    have hj1 : j < p.ps.length := by omega
    have hye := z3 hy
    have hp0 : (0 : Int) < ((j + 1 : Nat) : Int) := by omega
    have hp0' : (0 : Int) < (j : Int) + 1 := by omega
    have hwj2 : IntKind.i64.wrap (j : Int) = (j : Int) := IntWalk.i64_in _ (by omega)
    have hp2 : (0 : Int) ≤ (j : Int) + 1 := by omega
    have hp3 : ((j : Int) + 1).toNat = j + 1 := by omega
    have h1I : (j : Int) + 1 < (p.ps.length : Int) := by omega
    have hwj : IntKind.i64.wrap ((j : Int) + 1 - 1) = (j : Int) := by rw [IntWalk.i64_in _ (by omega)]; omega
    have hw' : IntKind.i64.wrap ((j : Int) + 1 + 1) = ((j + 2 : Nat) : Int) := by rw [IntWalk.i64_in _ (by omega)]; omega
    by_cases hle : x.t ≤ y.t
    ·rw [bad (by rw [decide_eq_false (show ¬ jC p.ps (j + 1) < x.t by omega)]; rfl)]
     simp [hbx, f1', f6, f7, f8, h1, hxe, hye, hj1, h1I, hp2, hp3, hwj2, hp0', Pa.enc, ha, hle]
    ·have hltx : jC p.ps (j + 1) < x.t := by omega
     cases hvk : x.c.ok with
     | false =>
      rw [hvk] at hv
      rw [bad (by rw [hvk]; simp)]
      simp [hbx, f1', f6, f7, f8, h1, hxe, hye, hj1, h1I, hp2, hp3, hwj2, hp0', Pa.enc, ha, hle, hv, dA, yN]
     | true =>
      have hsn := jk hvk
      rw [hvk] at hv
      by_cases hn : x.c.n = []
      ·rw [decide_eq_true hn] at hsn
       rw [bad (by rw [decide_eq_true hn]; simp)]
       simp [hbx, f1', f6, f7, f8, h1, hxe, hye, hj1, h1I, hp2, hp3, hwj2, hp0', Pa.enc, ha, hle, hv, hsg, hsn, dA, yN]
      ·rw [decide_eq_false hn] at hsn
       have hg := good (by rw [decide_eq_true hltx, hvk, decide_eq_false hn]; rfl)
       simp [hbx, f1', f6, f7, f8, h1, hxe, hye, hj1, h1I, hp2, hp3, hwj2, hp0', hw', Pa.enc, ha, hle, hv, hsg, hsn, zA, dA, yN]
       exact ⟨⟨j + 1 + 1, by omega, hg, by rw [hlx]; omega, by omega⟩, by omega⟩
 ·have hil : i = p.ps.length := by omega
  subst hil
  rw [List.drop_length] at hok
  have : p.ok = p.c.ok := by unfold Po.ok; rw [hok]; rfl
  rw [this]
  simp [hbx, f1', f7, f8, hc, dA, yN]
def Fr.small (x : Fr) : Bool := decide (x.n.length ≤ 1000000) && decide (x.d.length ≤ 1000000)
def nH : List PVal → Option PVal
 | [a] => match sP a with | some x => if x.small then some x.enc else none | none => none
 | _ => none
theorem sOwn_at {x : Fr} (h : x.wf) (hs : x.small = true) : nH [x.enc] = some x.enc := by simp only [nH, bG h, hs, if_true]
theorem tk {l : List Nat} (h : Wf l) (hs : l.length ≤ 1000000) : wU [.lst (l.map u64)] = some (.lst (l.map u64)) := by
 simp only [wU, zY h, if_pos hs]; rfl
theorem small_ok {x : Fr} (h : x.ok = true) : x.small = true := by
 obtain ⟨q, hq, rfl⟩ := Fr.ok_of h
 unfold Fr.small ofQ
 have h1 : (zc q.num.natAbs).length ≤ 64 := hq.1
 have h2 : (zc q.den).length ≤ 64 := hq.2
 simp only [Bool.and_eq_true, decide_eq_true_eq]
 omega
theorem dS {x : Fr} (h : x.wf) (hs : x.ok = true) : nH [x.enc] = some x.enc := sOwn_at h (small_ok hs)
def Tow : Tab := Tab.none.with 117 (za wU)
theorem Tow_ok : TabOk Tryz.prog base Tow := Tab.with_ok Tab.none_ok uX
theorem Tow_mu (f : FuncId) (a : List AVal) (H : zb) : Tow.mu f a H = none := (rfl)
theorem Tow_fns : Tow.fn 117 = (za wU) := (rfl)
theorem xM : zH Tryz.prog base 75 (za nH) := by
 refine zd zE Tow_ok ze low75 fun args z hs hf => ?_
 unfold nH at hs
 split at hs
 case h_2 => cases hs
 split at hs
 case h_2 => cases hs
 rename_i a x hx
 obtain ⟨rfl, wx⟩ := uW hx
 split at hs
 case isFalse => cases hs
 rename_i hsm
 cases hs
 unfold Fr.small at hsm
 simp only [Bool.and_eq_true, decide_eq_true_eq] at hsm
 refine ⟨by simp [lf75], ?_⟩
 have h1 := tk wx.1 hsm.1
 have h2 := tk wx.2 hsm.2
 simp only [Fr.enc]
 simp [lf75]
 rw [zw]
 refine ⟨[], ?_⟩
 simp [h1, h2, Tow_mu, Tow_fns]
theorem lequal_ok : zH Tryz.prog base 119 (za co) := by
 refine zd zE Tab.none_ok ze low119 fun args z hs hf => ?_
 unfold co at hs
 split at hs
 case h_2 => cases hs
 rename_i xs ys
 split at hs
 case h_2 => cases hs
 rename_i a b ha hb
 obtain ⟨rfl, wa⟩ := zI ha
 obtain ⟨rfl, wb⟩ := zI hb
 cases hs
 have hlen := (hf (.lst (a.map u64)) (by simp)).lst.1
 unfold maxLen at hlen
 simp only [List.length_map] at hlen
 refine ⟨by simp [lf119], ?_⟩
 by_cases hl : a.length = b.length
 ·have hl1 : ((a.length : Int) != b.length) = false := by simp [hl]
  simp [lf119, hl1]
  simp only [lf119_B0, zr]
  refine zo (fun fr H => ∃ i : Nat, H = [] ∧ i ≤ a.length ∧ fr 0 = .p (.lst (a.map u64)) ∧ fr 1 = .p (.lst (b.map u64)) ∧ fr 12 = .p (.int .i64 a.length) ∧ fr 13 = .p (.int .i64 i) ∧ a.take i = b.take i) (fun fr _ => a.length - zA (fr 13)) ⟨0, rfl, by omega, by simp, by simp, by simp, by simp, by simp⟩ ?_
  rintro fr H ⟨i, rfl, hi, h0, h1, h12, h5, hj⟩
  by_cases h : i < a.length
  ·obtain ⟨u, hx⟩ : ∃ u, a[i]? = some u := ⟨_, List.getElem?_eq_getElem h⟩
   obtain ⟨v, hy⟩ : ∃ v, b[i]? = some v := ⟨_, List.getElem?_eq_getElem (show i < b.length by omega)⟩
   have hib : i < b.length := by omega
   have hnx := z3 hx
   have hny := z3 hy
   by_cases he : u = v
   ·subst he
    have hj' : a.take (i + 1) = b.take (i + 1) := by rw [List.take_add_one, List.take_add_one, hj, hx, hy]
    simp [h0, h1, h12, h5, h, hib, hnx, hny, zs (i := i) (by omega), zA]
    exact ⟨⟨i + 1, by omega, rfl, hj'⟩, by omega⟩
   ·have hne : ¬ a = b := by
     rintro rfl
     rw [hx] at hy
     exact he (by cases hy; rfl)
    have hb : ((u : Int) != (v : Int)) = true := by simp; omega
    have hb2 : ((u : Int) == (v : Int)) = false := beq_false_of_ne (by omega)
    simp [h0, h1, h12, h5, h, hib, hnx, hny, hb, hne]
  ·have hil : i = a.length := by omega
   subst hil
   have hxy : a = b := by
    rw [List.take_of_length_le (Nat.le_refl _), List.take_of_length_le (by omega)] at hj
    exact hj
   simp [h12, h5, hxy]
 ·have hl1 : ((a.length : Int) != b.length) = true := by simp; omega
  have hne : ¬ a = b := fun e => hl (by rw [e])
  simp [lf119, hl1, hne]
def Tal : Tab := Tab.none.with 119 (za co)
theorem Tal_ok : TabOk Tryz.prog base Tal := Tab.with_ok Tab.none_ok lequal_ok
theorem Tal_mu (f : FuncId) (a : List AVal) (H : zb) : Tal.mu f a H = none := (rfl)
theorem Tal_fns : Tal.fn 119 = (za co) := (rfl)
theorem lalike_ok : zH Tryz.prog base 81 (za (f2 yQ)) := by
 refine zd zE Tal_ok ze low81 fun args z hs hf => ?_
 obtain ⟨x, y, wx, wy, rfl, rfl⟩ := gn hs
 obtain ⟨s, n, d⟩ := x
 obtain ⟨t, m, e⟩ := y
 refine ⟨by simp [lf81], ?_⟩
 have h1 := yn wx.1 wy.1
 have h2 := yn wx.2 wy.2
 simp only at h1 h2
 simp only [Fr.enc, yQ, sZ]
 obtain ⟨q1, hq1⟩ : ∃ q, q = decide (n = m) := ⟨_, rfl⟩
 obtain ⟨q2, hq2⟩ : ∃ q, q = decide (d = e) := ⟨_, rfl⟩
 rw [← hq1] at h1 ⊢
 rw [← hq2] at h2 ⊢
 cases s <;> cases t <;> cases q1 <;> cases q2 <;> simp [lf81, h1, h2, Tal_mu, Tal_fns]
theorem sameF_iff {x y : Fr} : sZ x y = decide (x = y) := by
 obtain ⟨s, n, d⟩ := x
 obtain ⟨t, m, e⟩ := y
 unfold sZ
 rw [Bool.eq_iff_iff]
 simp [and_assoc]
end Go.Proofs.YtgbjjikaenlkmaaGreat

namespace Go.Abs
def Grown (b size : Nat) (ty : TypeId) (es : List PVal) (x : AVal) (ex : zb) : Prop :=
 (es = [] ∧ x = .tight []) ∨ ∃ j v, x = .own (b + j) 0 es.length v ∧ ex[j]? = some ⟨size, v, false, es.map .p, ty⟩
theorem Grown.nil (b size : Nat) (ty : TypeId) (ex : zb) : Grown b size ty [] (.tight []) ex := .inl ⟨rfl, rfl⟩
theorem Grown.more {b size : Nat} {ty : TypeId} {es : List PVal} {x : AVal} {ex : zb} (h : Grown b size ty es x ex) (n : zb) : Grown b size ty es x (ex ++ n) := by
 rcases h with h | ⟨j, v, rfl, hj⟩
 ·exact .inl h
 ·exact .inr ⟨j, v, rfl, by rw [List.getElem?_append_left (List.getElem?_eq_some_iff.1 hj).1]; exact hj⟩
theorem Grown.isCell {b size : Nat} {ty : TypeId} {es : List PVal} {x : AVal} {ex : zb} (h : Grown b size ty es x ex) : x.isCell = true ∧ x.cells = [x] ∧ x.isAgg = false := by
 rcases h with ⟨rfl, rfl⟩ | ⟨j, v, rfl, hj⟩ <;> exact ⟨rfl, rfl, rfl⟩
theorem ls {H : zb} {n : Nat} : ∀ es : List PVal, zN (zj H n) (es.map .p) = some es
 | [] => rfl
 | e :: r => by
  have := ls (H := H) (n := n) r
  simp only [List.map_cons, zN, this]
  cases n <;> rfl
theorem xL {α : Type} {H : zb} {n : Nat} {f : α → PVal} (es : List α) : zN (zj H n) (es.map (AVal.p ∘ f)) = some (es.map f) := by
 rw [← List.map_map]; exact ls _
theorem snoc2' {a b e : Ent} {ex s : zb} (k : Nat) (hk : k < ex.length + 1 + 1 + 1) : (a :: b :: (ex ++ e :: s))[k]? = (a :: b :: (ex ++ [e]))[k]? := by
 rw [show a :: b :: (ex ++ e :: s) = (a :: b :: (ex ++ [e])) ++ s by simp, List.getElem?_append_left (by simpa using hk)]
theorem get3 {α : Type} (a b c : α) (ex : List α) (j : Nat) : (a :: b :: c :: ex)[3 + j]? = ex[j]? := by rw [Nat.add_comm]; rfl
theorem get2 {α : Type} (a b : α) (ex : List α) (j : Nat) : (a :: b :: ex)[2 + j]? = ex[j]? := by rw [Nat.add_comm]; rfl
theorem jh {α β : Type} (f : α → β) (l : List α) : (l.map f).take l.length = l.map f := List.take_of_length_le (by simp)
theorem swap3 {a b c d e : Ent} {ex : zb} (k : Nat) (hk : k < ex.length + 1 + 1 + 1 + 1) (hn : ¬ k = ex.length + 3) : (a :: b :: c :: (ex ++ [d]))[k]? = (a :: b :: c :: (ex ++ [e]))[k]? := by
 rcases k with _ | _ | _ | k
 ·rfl
 ·rfl
 ·rfl
 ·have h : k < ex.length := by omega
  show (ex ++ [d])[k]? = (ex ++ [e])[k]?
  rw [List.getElem?_append_left h, List.getElem?_append_left h]
theorem Grown.resolve {b size : Nat} {ty : TypeId} {es : List PVal} {x : AVal} {ex pre : zb} (h : Grown b size ty es x ex) (hb : pre.length = b) (n : Nat) : zj (pre ++ ex) (n + 1) x = some (.lst es) := by
 rcases h with ⟨rfl, rfl⟩ | ⟨j, v, rfl, hj⟩
 ·rfl
 ·have : (pre ++ ex)[b + j]? = some ⟨size, v, false, es.map .p, ty⟩ := by rw [List.getElem?_append_right (by omega), ← hb, Nat.add_sub_cancel_left]; exact hj
  simp only [zj, this, List.length_map, Nat.zero_add, Nat.le_refl, and_self, if_true, List.drop_zero]
  rw [List.take_of_length_le (by simp), ls]
theorem Grown.form {b size : Nat} {ty : TypeId} {es : List PVal} {x : AVal} {ex : zb} (h : Grown b size ty es x ex) : x = .tight [] ∨ ∃ k n v, x = .own k 0 n v := by
 rcases h with ⟨rfl, rfl⟩ | ⟨j, v, rfl, hj⟩
 ·exact .inl rfl
 ·exact .inr ⟨_, _, _, rfl⟩
theorem Grown.app {b size : Nat} {ty : TypeId} {es : List PVal} {x : AVal} {ex pre : zb} (h : Grown b size ty es x ex) (hb : pre.length = b) {y : PVal} (hy : y.cells.length = size) (hk : y.cells.all PVal.isCell = true) (hs : 0 < size) {bytes : Nat}
  (hB : (es.length + 1) * bytes ≤ 140737488355328) (hm : es.length + 1 ≤ maxLen) :
  ∃ k v ex', qC size bytes ty x [.p y] (pre ++ ex) = some (.own k 0 (es.length + 1) v, pre ++ ex') ∧ Grown b size ty (es ++ [y]) (.own k 0 (es.length + 1) v) ex' := by
 have hc : ((AVal.p y).cells.length == size && (AVal.p y).cells.all AVal.isCell) = true := by
  simp only [AVal.cells, List.length_map, hy, beq_self_eq_true, Bool.true_and, List.all_map]
  exact hk
 have hall : ([AVal.p y].all fun y => y.cells.length == size && y.cells.all AVal.isCell) = true := by
  simp only [List.all_cons, List.all_nil, Bool.and_true]; exact hc
 rcases h with ⟨rfl, rfl⟩ | ⟨j, v, rfl, hj⟩
 ·refine ⟨b + ex.length, 0, ex ++ [⟨size, 0, false, [.p y], ty⟩], ?_, .inr ⟨ex.length, 0, rfl, by simp⟩⟩
  simp only [qC, hall, hs, and_self, if_true, List.isEmpty_nil, Bool.true_or, List.all_nil, List.length_nil, List.length_cons, Nat.zero_add, List.map_nil, List.nil_append, true_and]
  simp only [List.length_nil, Nat.zero_add] at hB hm
  rw [if_pos ⟨by simpa using hB, hm⟩]
  simp [hb]
 ·have hg : (pre ++ ex)[b + j]? = some ⟨size, v, false, es.map .p, ty⟩ := by rw [List.getElem?_append_right (by omega), ← hb, Nat.add_sub_cancel_left]; exact hj
  refine ⟨b + j, v + 1, ex.set j ⟨size, v + 1, false, es.map .p ++ [.p y], ty⟩, ?_, .inr ⟨j, v + 1, by simp, by
   have := (List.getElem?_eq_some_iff.1 hj).1
   simp [this]⟩⟩
  simp only [qC, hall, hs, and_self, if_true, hg, List.length_map, List.length_cons, List.length_nil, Nat.zero_add, true_and]
  rw [if_pos ⟨hB, hm⟩, List.set_append_right _ _ (by omega), ← hb, Nat.add_sub_cancel_left]
end Go.Abs

namespace Go.Proofs.YtgbjjikaenlkmaaGreat
open Go Go.Abs Go.Limbs
variable {base : Prot}
set_option maxRecDepth 20000
attribute [local irreducible] vc
attribute [local simp] za zh freezeL fuel zk u64 au
theorem mT : ∀ {l : List Pa} {a : Int}, wD a l = true → ∀ x ∈ l, x.c.ok = true
 | [], _, _, x, hx => by cases hx
 | y :: r, a, h, x, hx => by
  simp only [wD, Bool.and_eq_true] at h
  rcases List.mem_cons.1 hx with rfl | hx
  ·exact h.1.1.2
  ·exact mT h.2 x hx
theorem dX {p : Po} (h : p.ok = true) {x : Pa} (hx : x ∈ p.ps) : x.c.ok = true := by
 unfold Po.ok at h
 rw [Bool.and_eq_true] at h
 exact mT h.1 x hx
theorem uP {p : Po} (h : p.ok = true) : p.c.ok = true := by
 unfold Po.ok at h
 rw [Bool.and_eq_true] at h
 exact h.2
def Tsc : Tab := (((((Tab.none.with 68 (za (g1 rn))).with 69 (za (f1 uZ))).with 70 (za (f2 xK))).with 71 (za (f1 vH))).with 74 (za (f2 fy))).with 75 (za nH)
theorem Tsc_ok : TabOk Tryz.prog base Tsc := Tab.with_ok (Tab.with_ok (Tab.with_ok (Tab.with_ok (Tab.with_ok (Tab.with_ok Tab.none_ok tJ) gU) qmul_ok) dV) qadd_ok) xM
theorem wW (f : FuncId) (a : List AVal) (H : zb) : Tsc.mu f a H = none := (rfl)
theorem qL : Tsc.fn 68 = (za (g1 rn)) ∧ Tsc.fn 69 = (za (f1 uZ)) ∧ Tsc.fn 70 = (za (f2 xK)) ∧ Tsc.fn 71 = (za (f1 vH)) ∧ Tsc.fn 74 = (za (f2 fy)) ∧ Tsc.fn 75 = (za nH) := ⟨rfl, rfl, rfl, rfl, rfl, rfl⟩
theorem og {k : Fr} {l : List Pa} {i : Nat} {x : Pa} (hx : l[i]? = some x) : kd k (l.drop i) = if (uD x.c k).2 = 0 then (kd k (l.drop (i + 1))).map (⟨(uD x.c k).1, x.t⟩ :: ·) else none := by
 have hi := (List.getElem?_eq_some_iff.1 hx).1
 rw [List.drop_eq_getElem_cons hi, z3 hx]
 rfl
theorem mulP_at {x y : Fr} (hx : x.wf) (hy : y.wf) : f2 xK [x.enc, y.enc] = some (.tup [(uD x y).1.enc, .int .i64 (uD x y).2]) := eM hx hy
theorem addP_at {x y : Fr} (hx : x.wf) (hy : y.wf) : f2 fy [x.enc, y.enc] = some (.tup [(j6 x y).1.enc, .int .i64 (j6 x y).2]) := eM hx hy
theorem ec {x y : Fr} (hx : x.ok = true) (hy : y.ok = true) : (uD x y).2 = 0 ∨ uD x y = (zF, 4) := by
 unfold uD ww
 rw [hx, hy]
 simp only [Bool.and_self, if_true]
 split
 ·exact .inl rfl
 ·exact .inr rfl
theorem aH {x y : Fr} (hx : x.ok = true) (hy : y.ok = true) : (j6 x y).2 = 0 ∨ j6 x y = (zF, 4) := by
 unfold j6 ww
 rw [hx, hy]
 simp only [Bool.and_self, if_true]
 split
 ·exact .inl rfl
 ·exact .inr rfl
def y9 (p : Po) (k : Fr) : PVal := gW (jS p k)
theorem oe : zH Tryz.prog base 41 (za (gks y9)) := by
 refine zd zE Tsc_ok ze low41 fun args z hs hf => ?_
 obtain ⟨p, k, wp, wk, fp, rfl, rfl⟩ := gks_some hs
 refine ⟨by simp [lf41], ?_⟩
 have hlen := x4 fp
 have v1 : g1 rn [p.enc] = some (.bool p.ok) := g1_at wp
 have v2 := vF wk
 have v3 := mulP_at wp.2 wk
 have v4 : f1 vH [k.enc] = some (.int .i64 (z9 k)) := kZ wk
 unfold y9 gW jS
 cases hp : p.ok with
 | false =>
  rw [hp] at v1
  simp only [Po.enc, Fr.enc] at v1 ⊢
  simp [lf41, v1, wW, qL, zPo, zF]
 | true =>
 rw [hp] at v1
 cases hk : k.ok with
 | false =>
  rw [hk] at v2
  simp only [Po.enc, Fr.enc] at v1 v2 ⊢
  simp [lf41, v1, v2, wW, qL, zPo, zF]
 | true =>
 rw [hk] at v2
 rcases ec (uP hp) hk with he | he
 case inr =>
  rw [he] at v3
  simp only [Po.enc, Fr.enc, zF] at v1 v2 v3 ⊢
  simp [lf41, v1, v2, v3, he, wW, qL, zPo, zF]
 rw [he] at v3
 have hsn := jk hk
 obtain ⟨c, hc⟩ : ∃ c, c = (uD p.c k).1 := ⟨_, rfl⟩
 have wc : c.wf := by rw [hc]; exact nL _ _
 rw [← hc] at v3 ⊢
 simp only [he, Bool.and_self, if_true]
 by_cases hk0 : k.n = []
 ·rw [decide_eq_true hk0] at hsn
  rw [if_pos hk0]
  simp only [Po.enc, Fr.enc] at v1 v2 v3 v4 ⊢
  simp [lf41, v1, v2, v3, v4, hsn, wW, qL]
 rw [decide_eq_false hk0] at hsn
 rw [if_neg hk0]
 obtain ⟨r, hr⟩ : ∃ r : Po × Nat, r = cn c (kd k p.ps) := ⟨_, rfl⟩
 rw [← hr]
 have hm := uQ
 simp only [Po.enc, Fr.enc] at v1 v2 v3 v4 ⊢
 simp [lf41, v1, v2, v3, v4, hsn, wW, qL]
 simp only [lf41_B0, zr]
 refine zo (fun fr H => ∃ (i : Nat) (es : List Pa) (x : AVal) (ex : zb), H = ⟨4, 0, false, [.p p.enc], 76⟩ :: ⟨3, 0, false, [.p k.enc], 33⟩ :: ⟨4, 0, false, [.agg [x, .p (.bool c.s), .p (.lst (c.n.map u64)), .p (.lst (c.d.map u64))]], 76⟩ :: ex ∧
   i ≤ p.ps.length ∧ es.length = i ∧ Grown 3 4 93 (es.map Pa.enc) x ex ∧ kd k p.ps = (kd k (p.ps.drop i)).map (es ++ ·) ∧
   fr 3 = .optr 1 0 0 0 ∧ fr 4 = .optr 2 0 0 0 ∧ fr 34 = .p (.lst (p.ps.map Pa.enc)) ∧ fr 35 = .p (.int .i64 p.ps.length) ∧ fr 36 = .p (.int .i64 i)) (fun fr _ => p.ps.length - zA (fr 36))
  ⟨0, [], .tight [], [], by simp [Po.enc, Fr.enc], by omega, rfl, .nil _ _ _ _, by simp, by simp, by simp, by simp, by simp, by simp⟩ ?_
 rintro fr H ⟨i, es, x, ex, rfl, hi, hes, hg, hsc, f3, f4, f34, f35, f36⟩
 have hgc := hg
 by_cases h1 : i < p.ps.length
 ·obtain ⟨y, hy⟩ : ∃ y, p.ps[i]? = some y := ⟨_, List.getElem?_eq_getElem h1⟩
  have wy : y.c.wf := wp.1 y (List.mem_of_getElem? hy)
  have hye := z3 hy
  have hm := mulP_at wy wk
  rw [og hy] at hsc
  have hw := zs (i := i) (by omega)
  rcases ec (dX hp (List.mem_of_getElem? hy)) hk with he | he
  case inr =>
   rw [he] at hm hsc
   simp only [Fr.enc, zF] at hm
   simp only [show ¬ (4 = 0) by decide, if_false] at hsc
   rw [hsc] at hr
   rcases hg.form with rfl | ⟨kk, nn, vv, rfl⟩ <;> simp [f3, f4, f34, f35, f36, h1, hye, Pa.enc, Po.enc, Fr.enc, hm, hr, cn, zPo, zF, wW, qL]
  obtain ⟨d, hd⟩ : ∃ d, d = (uD y.c k).1 := ⟨_, rfl⟩
  rw [he, ← hd] at hm
  rw [he, ← hd, if_pos rfl] at hsc
  obtain ⟨k', v', ex', happ, hg'⟩ := (hg.more [⟨4, 0, false, [.p (.agg [.bool d.s, .lst (d.n.map u64), .lst (d.d.map u64), .int .i64 y.t])], 93⟩, ⟨4, 0, false, [.p (.agg [.bool d.s, .lst (d.n.map u64), .lst (d.d.map u64), .int .i64 y.t])], 93⟩]).app
   (pre := [⟨4, 0, false, [.p p.enc], 76⟩, ⟨3, 0, false, [.p k.enc], 33⟩, ⟨4, 0, false, [.agg [x, .p (.bool c.s), .p (.lst (c.n.map u64)), .p (.lst (c.d.map u64))]], 76⟩]) rfl (y := (⟨d, y.t⟩ : Pa).enc) rfl rfl (by omega) (bytes := 64) (by simp; omega) (by simp; omega)
  simp only [Fr.enc] at hm
  simp only [Po.enc, Fr.enc, Pa.enc, List.cons_append, List.nil_append] at happ
  rcases hg.form with rfl | ⟨kk, nn, vv, rfl⟩ <;> simp [f3, f4, f34, f35, f36, h1, hye, Pa.enc, Po.enc, Fr.enc, hm, wW, qL, zO, -qC, happ, hw, zA]
  all_goals
   exact ⟨⟨i + 1, es ++ [⟨d, y.t⟩], _, _, ⟨rfl, rfl⟩, by omega, by simp [hes], by simpa [Pa.enc] using hg', by rw [hsc, Option.map_map]; congr 1; funext m; simp, by omega⟩, by omega⟩
 ·have hil : i = p.ps.length := by omega
  rw [hil, List.drop_length] at hsc
  simp only [kd, Option.map_some, List.append_nil] at hsc
  rw [hsc] at hr
  rcases hg with ⟨he, rfl⟩ | ⟨j, v, rfl, hj⟩
  ·have : es = [] := by simpa using he
   subst this
   simp [f4, f35, f36, h1, hr, cn, Po.enc, Fr.enc]
  ·simp [f4, f35, f36, h1, hr, hj, get3, xL, jh, cn, Po.enc, Fr.enc]
def aF (p q : Po) : PVal := gW (aE p q)
theorem vB (a b c d : PVal) (l : List Pa) : kM 4 (.agg [a, b, c, d] :: l.map Pa.enc) = true := by
 unfold kM
 simp only [List.all_cons, List.all_map, Bool.and_eq_true]
 exact ⟨rfl, List.all_eq_true.2 fun x _ => rfl⟩
theorem merge_lt {x y : Pa} {l r : List Pa} (h : x.t < y.t) : qB (x :: l) (y :: r) = (qB l (y :: r)).map (x :: ·) := by rw [qB, if_pos h]
theorem merge_gt {x y : Pa} {l r : List Pa} (h : y.t < x.t) : qB (x :: l) (y :: r) = (qB (x :: l) r).map (y :: ·) := by rw [qB, if_neg (by omega), if_pos h]
theorem merge_eq {x y : Pa} {l r : List Pa} (h : x.t = y.t) : qB (x :: l) (y :: r) = if (j6 x.c y.c).2 = 0 then (qB l r).map (fun m => if (j6 x.c y.c).1.n = [] then m else ⟨(j6 x.c y.c).1, x.t⟩ :: m) else none := by
 rw [qB, if_neg (by omega), if_neg (by omega)]
theorem bW (r : List Pa) : qB [] r = some r := by rw [qB]
theorem rB (x : Pa) (l : List Pa) : qB (x :: l) [] = some (x :: l) := by rw [qB]
theorem map_app {es : List Pa} {z : Pa} {o : Option (List Pa)} : (o.map (z :: ·)).map (es ++ ·) = o.map (es ++ [z] ++ ·) := by
 rw [Option.map_map]; congr 1; funext m; simp
theorem ok_addF {x y : Fr} (h : (j6 x y).2 = 0) : (j6 x y).1.ok = true := by
 unfold j6 ww at h ⊢
 split at h
 ·split at h
  ·rename_i h1 h2
   rw [if_pos h1, if_pos h2]
   exact yA h2
  ·cases h
 ·cases h
theorem rq : ∀ {l : List Pa} {a : Int}, wD a l = true → ∀ x ∈ l, x.c.n ≠ []
 | [], _, _, x, hx => by cases hx
 | y :: r, a, h, x, hx => by
  simp only [wD, Bool.and_eq_true, Bool.not_eq_true', decide_eq_false_iff_not] at h
  rcases List.mem_cons.1 hx with rfl | hx
  ·exact h.1.2
  ·exact rq h.2 x hx
theorem nz_part {p : Po} (h : p.ok = true) {x : Pa} (hx : x ∈ p.ps) : x.c.n ≠ [] := by
 unfold Po.ok at h
 rw [Bool.and_eq_true] at h
 exact rq h.1 x hx
theorem ladd_ok : zH Tryz.prog base 44 (za (g2s aF)) := by
 refine zd zE Tsc_ok ze low44 fun args z hs hf => ?_
 obtain ⟨p, q, wp, wq, fp, fq, rfl, rfl⟩ := g2s_some hs
 refine ⟨by simp [lf44], ?_⟩
 have hlp := x4 fp
 have hlq := x4 fq
 have v1 : g1 rn [p.enc] = some (.bool p.ok) := g1_at wp
 have v2 : g1 rn [q.enc] = some (.bool q.ok) := g1_at wq
 have v3 := addP_at wp.2 wq.2
 unfold aF gW aE
 cases hp : p.ok with
 | false =>
  rw [hp] at v1
  simp only [Po.enc] at v1 ⊢
  simp [lf44, v1, wW, qL, zPo, zF]
 | true =>
 rw [hp] at v1
 cases hq : q.ok with
 | false =>
  rw [hq] at v2
  simp only [Po.enc] at v1 v2 ⊢
  simp [lf44, v1, v2, wW, qL, zPo, zF]
 | true =>
 rw [hq] at v2
 rcases aH (uP hp) (uP hq) with he | he
 case inr =>
  rw [he] at v3
  simp only [Po.enc, Fr.enc, zF] at v1 v2 v3 ⊢
  simp [lf44, v1, v2, v3, he, wW, qL, zPo, zF]
 rw [he] at v3
 obtain ⟨c, hc⟩ : ∃ c, c = (j6 p.c q.c).1 := ⟨_, rfl⟩
 rw [← hc] at v3 ⊢
 simp only [he, Bool.and_self, if_true]
 obtain ⟨r, hr⟩ : ∃ r : Po × Nat, r = cn c (qB p.ps q.ps) := ⟨_, rfl⟩
 rw [← hr]
 have hm := uQ
 simp only [Po.enc, Fr.enc] at v1 v2 v3 ⊢
 simp [lf44, v1, v2, v3, wW, qL]
 simp only [lf44_B0, zr]
 refine zo (fun fr H => ∃ (l m : List Pa) (es : List Pa) (x : AVal) (ex : zb), H = ⟨4, 0, false, [.p p.enc], 76⟩ :: ⟨4, 0, false, [.p q.enc], 76⟩ :: ⟨4, 0, false, [.agg [x, .p (.bool c.s), .p (.lst (c.n.map u64)), .p (.lst (c.d.map u64))]], 76⟩ :: ex ∧
   es.length + l.length + m.length ≤ 2000000 ∧ Grown 3 4 93 (es.map Pa.enc) x ex ∧ qB p.ps q.ps = (qB l m).map (es ++ ·) ∧ (∀ x ∈ l, x.wf ∧ x.c.ok = true ∧ x.c.n ≠ []) ∧ (∀ x ∈ m, x.wf ∧ x.c.ok = true ∧ x.c.n ≠ []) ∧
   fr 4 = .optr 2 0 0 0 ∧ fr 6 = .p (.lst (l.map Pa.enc)) ∧ fr 7 = .p (.lst (m.map Pa.enc))) (fun fr _ => (match fr 6, fr 7 with | .p (.lst a), .p (.lst b) => a.length + b.length | _, _ => 0))
  ⟨p.ps, q.ps, [], .tight [], [], by simp [Po.enc], by simp; omega, .nil _ _ _ _, by simp, fun x hx => ⟨wp.1 x hx, dX hp hx, nz_part hp hx⟩, fun x hx => ⟨wq.1 x hx, dX hq hx, nz_part hq hx⟩, by simp, by simp, by simp⟩ ?_
 rintro fr H ⟨l, m, es, x, ex, rfl, hlen, hg, hmg, okl, okm, f4, f6, f7⟩
 have more : ∀ (d : Fr) (t : Int) (es2 : List Pa), es2 = es ++ [⟨d, t⟩] → es.length + 1 ≤ 2000000 → ∃ k' v' ex', qC 4 64 93 x [.p (.agg [.bool d.s, .lst (d.n.map u64), .lst (d.d.map u64), .int .i64 t])] (⟨4, 0, false, [.p p.enc], 76⟩ :: ⟨4, 0, false, [.p q.enc], 76⟩ :: ⟨4, 0, false, [.agg [x, .p (.bool c.s), .p (.lst (c.n.map u64)), .p (.lst (c.d.map u64))]], 76⟩ :: (ex ++
   [⟨4, 0, false, [.p (.agg [.bool d.s, .lst (d.n.map u64), .lst (d.d.map u64), .int .i64 t])], 93⟩, ⟨4, 0, false, [.p (.agg [.bool d.s, .lst (d.n.map u64), .lst (d.d.map u64), .int .i64 t])], 93⟩])) =
    some (.own k' 0 (es.length + 1) v', ⟨4, 0, false, [.p p.enc], 76⟩ :: ⟨4, 0, false, [.p q.enc], 76⟩ :: ⟨4, 0, false, [.agg [x, .p (.bool c.s), .p (.lst (c.n.map u64)), .p (.lst (c.d.map u64))]], 76⟩ :: ex') ∧ Grown 3 4 93 (es2.map Pa.enc) (.own k' 0 (es.length + 1) v') ex' := by
  intro d t es2 h2 hle
  obtain ⟨k', v', ex', happ, hg'⟩ := (hg.more [⟨4, 0, false, [.p (.agg [.bool d.s, .lst (d.n.map u64), .lst (d.d.map u64), .int .i64 t])], 93⟩, ⟨4, 0, false, [.p (.agg [.bool d.s, .lst (d.n.map u64), .lst (d.d.map u64), .int .i64 t])], 93⟩]).app
   (pre := [⟨4, 0, false, [.p p.enc], 76⟩, ⟨4, 0, false, [.p q.enc], 76⟩, ⟨4, 0, false, [.agg [x, .p (.bool c.s), .p (.lst (c.n.map u64)), .p (.lst (c.d.map u64))]], 76⟩]) rfl (y := (⟨d, t⟩ : Pa).enc) rfl rfl (by omega) (bytes := 64) (by simp; omega) (by simp; omega)
  rw [List.length_map] at happ hg'
  exact ⟨k', v', ex', happ, by subst h2; simpa using hg'⟩
 cases l with
 | nil =>
  cases m with
  | nil =>
   rw [bW] at hmg
   simp only [Option.map_some, List.append_nil] at hmg
   rw [hmg] at hr
   rcases hg with ⟨he, rfl⟩ | ⟨j, v, rfl, hj⟩
   ·have : es = [] := by simpa using he
    subst this
    simp [f4, f6, f7, hr, cn, Po.enc]
   ·simp [f4, f6, f7, hr, hj, get3, xL, jh, cn, Po.enc]
  | cons y m =>
   obtain ⟨wy, oy, ny⟩ := okm y (by simp)
   have v5 := dS wy oy
   have v6 : f1 vH [y.c.enc] = some (.int .i64 (z9 y.c)) := kZ wy
   have v7 := jk oy
   rw [decide_eq_false ny] at v7
   have v8 : (z9 y.c != 0) = true := by rw [bne, v7]; rfl
   simp only [Fr.enc] at v5 v6
   have hp1 : (0 : Int) < (m.length : Int) + 1 := by omega
   have hp2 : ((m.length : Int) + 1 == 0) = false := by simp; omega
   have hp3 : (1 : Int) ≤ (m.length : Int) + 1 := by omega
   simp only [List.length_nil, List.length_cons] at hlen
   obtain ⟨k', v', ex', happ, hg'⟩ := more y.c y.t _ rfl (by omega)
   rcases hg.form with rfl | ⟨kk, nn, vv, rfl⟩
   all_goals
    simp [f6, f7, hp1, hp2, Pa.enc]
    rw [zw]
    refine ⟨[ex.length + 3], ?_⟩
    simp only [Po.enc] at happ
    simp [f4, f6, f7, Pa.enc, Po.enc, v5, v6, v8, hp3, vB, jh, zO, -qC, happ, wW, qL]
    exact ⟨swap3, [], m, es ++ [y], _, _, ⟨rfl, rfl⟩, by simp; omega, hg', by rw [hmg, bW, bW]; simp, by simp, fun z hz => okm z (by simp [hz]), rfl, rfl⟩
 | cons u l =>
  obtain ⟨wu, ou, nu⟩ := okl u (by simp)
  have u5 := dS wu ou
  have u6 : f1 vH [u.c.enc] = some (.int .i64 (z9 u.c)) := kZ wu
  have u7 := jk ou
  rw [decide_eq_false nu] at u7
  have u8 : (z9 u.c != 0) = true := by rw [bne, u7]; rfl
  simp only [Fr.enc] at u5 u6
  have hl1 : (0 : Int) < (l.length : Int) + 1 := by omega
  have hl2 : ((l.length : Int) + 1 == 0) = false := by simp; omega
  have hl3 : (1 : Int) ≤ (l.length : Int) + 1 := by omega
  cases m with
  | nil =>
   simp only [List.length_nil, List.length_cons] at hlen
   obtain ⟨k', v', ex', happ, hg'⟩ := more u.c u.t _ rfl (by omega)
   rcases hg.form with rfl | ⟨kk, nn, vv, rfl⟩
   all_goals
    simp [f6, f7, hl1, Pa.enc]
    rw [zw]
    refine ⟨[ex.length + 3], ?_⟩
    simp only [Po.enc] at happ
    simp [f4, f6, f7, hl3, Pa.enc, Po.enc, u5, u6, u8, vB, jh, zO, -qC, happ, wW, qL]
    exact ⟨swap3, l, [], es ++ [u], _, _, ⟨rfl, rfl⟩, by simp; omega, hg', by
     rw [hmg, rB]
     cases l with
     | nil => rw [bW]; simp
     | cons a l => rw [rB]; simp, fun z hz => okl z (by simp [hz]), by simp, rfl, rfl⟩
  | cons y m =>
   obtain ⟨wy, oy, ny⟩ := okm y (by simp)
   have v5 := dS wy oy
   have v6 : f1 vH [y.c.enc] = some (.int .i64 (z9 y.c)) := kZ wy
   have v7 := jk oy
   rw [decide_eq_false ny] at v7
   have v8 : (z9 y.c != 0) = true := by rw [bne, v7]; rfl
   simp only [Fr.enc] at v5 v6
   have hp1 : (0 : Int) < (m.length : Int) + 1 := by omega
   have hp2 : ((m.length : Int) + 1 == 0) = false := by simp; omega
   have hp3 : (1 : Int) ≤ (m.length : Int) + 1 := by omega
   simp only [List.length_cons] at hlen
   by_cases hlt : u.t < y.t
   ·obtain ⟨k', v', ex', happ, hg'⟩ := more u.c u.t _ rfl (by omega)
    rw [merge_lt hlt, map_app] at hmg
    rcases hg.form with rfl | ⟨kk, nn, vv, rfl⟩
    all_goals
     simp [f6, f7, hl1, hp2, hlt, Pa.enc]
     rw [zw]
     refine ⟨[ex.length + 3], ?_⟩
     simp only [Po.enc] at happ
     simp [f4, f6, f7, hl3, Pa.enc, Po.enc, u5, u6, u8, vB, jh, zO, -qC, happ, wW, qL]
     exact ⟨swap3, l, y :: m, es ++ [u], _, _, ⟨rfl, rfl⟩, by simp; omega, hg', hmg, fun z hz => okl z (by simp [hz]), fun z hz => okm z hz, rfl, rfl⟩
   ·by_cases hgt : y.t < u.t
    ·obtain ⟨k', v', ex', happ, hg'⟩ := more y.c y.t _ rfl (by omega)
     rw [merge_gt hgt, map_app] at hmg
     rcases hg.form with rfl | ⟨kk, nn, vv, rfl⟩
     all_goals
      simp [f6, f7, hl1, hl2, hp2, hlt, hgt, Pa.enc]
      rw [zw]
      refine ⟨[ex.length + 3], ?_⟩
      simp only [Po.enc] at happ
      simp [f4, f6, f7, hp3, Pa.enc, Po.enc, v5, v6, v8, vB, jh, zO, -qC, happ, wW, qL]
      exact ⟨swap3, u :: l, m, es ++ [y], _, _, ⟨rfl, rfl⟩, by simp; omega, hg', hmg, fun z hz => okl z hz, fun z hz => okm z (by simp [hz]), rfl, rfl⟩
    ·have heq : u.t = y.t := by omega
     have w1 := addP_at wu wy
     rw [merge_eq heq] at hmg
     rcases aH ou oy with he | he
     case inr =>
      rw [he] at w1 hmg
      simp only [show ¬ (4 = 0) by decide, if_false, Option.map_none] at hmg
      rw [hmg] at hr
      simp only [Fr.enc, zF] at w1
      rcases hg.form with rfl | ⟨kk, nn, vv, rfl⟩
      all_goals
       simp [f6, f7, hl1, hl2, hp2, hlt, hgt, Pa.enc]
       rw [zw]
       refine ⟨[ex.length + 3], ?_⟩
       simp [f4, f6, f7, Pa.enc, Po.enc, w1, hr, cn, zPo, zF, wW, qL]
     obtain ⟨d, hd⟩ : ∃ d, d = (j6 u.c y.c).1 := ⟨_, rfl⟩
     have od : d.ok = true := by rw [hd]; exact ok_addF he
     have wd : d.wf := by rw [hd]; exact xd _ _
     have d6 : f1 vH [d.enc] = some (.int .i64 (z9 d)) := kZ wd
     have d7 := jk od
     rw [he, ← hd] at w1
     rw [he, ← hd, if_pos rfl] at hmg
     simp only [Fr.enc] at w1 d6
     by_cases dn : d.n = []
     ·rw [decide_eq_true dn] at d7
      have d8 : (z9 d != 0) = false := by rw [bne, d7]; rfl
      rcases hg.form with rfl | ⟨kk, nn, vv, rfl⟩
      all_goals
       simp [f6, f7, hl1, hl2, hp2, hlt, hgt, Pa.enc]
       rw [zw]
       refine ⟨[ex.length + 3], ?_⟩
       simp [f4, f6, f7, hl3, hp3, Pa.enc, Po.enc, w1, d6, d8, vB, jh, wW, qL]
       exact ⟨⟨l, m, es, _, _, ⟨rfl, rfl⟩, by omega, hg.more _, by rw [hmg, Option.map_map]; congr 1; funext z; simp [dn], fun z hz => okl z (by simp [hz]), fun z hz => okm z (by simp [hz]), rfl, rfl⟩, by omega⟩
     ·rw [decide_eq_false dn] at d7
      have d8 : (z9 d != 0) = true := by rw [bne, d7]; rfl
      obtain ⟨k', v', ex', happ, hg'⟩ := more d u.t _ rfl (by omega)
      rcases hg.form with rfl | ⟨kk, nn, vv, rfl⟩
      all_goals
       simp [f6, f7, hl1, hl2, hp2, hlt, hgt, Pa.enc]
       rw [zw]
       refine ⟨[ex.length + 3], ?_⟩
       simp only [Po.enc] at happ
       simp [f4, f6, f7, hl3, hp3, Pa.enc, Po.enc, w1, d6, d8, zO, -qC, happ, vB, jh, wW, qL]
       exact ⟨⟨l, m, es ++ [⟨d, u.t⟩], _, _, ⟨rfl, rfl⟩, by simp; omega, hg', by rw [hmg, Option.map_map]; congr 1; funext z; simp [dn], fun z hz => okl z (by simp [hz]), fun z hz => okm z (by simp [hz]), rfl, rfl⟩, by omega⟩
theorem ofR {n d : Int} (h : (-1000 ≤ n ∧ n ≤ 1000) ∧ (-1000 ≤ d ∧ d ≤ 1000)) : cN [.int .i64 n, .int .i64 d] = some (ofQ (Rat.divInt n d)).enc := sQOf_at (by omega) (by omega)
theorem quoP_at {x y : Fr} (hx : x.wf) (hy : y.wf) : f2 sK [x.enc, y.enc] = some (.tup [(cj x y).1.enc, .int .i64 (cj x y).2]) := eM hx hy
theorem m1_eq : Rat.divInt (-1) 1 = -1 := by decide +kernel
theorem p1_eq : Rat.divInt 1 1 = 1 := by decide +kernel
abbrev Lk := PVal → Po → Option (Int → Fr)
structure LkOk (T : Tab) (L : Lk) : Prop where
 ok : ∀ c p lk, L c p = some lk → ∃ f caps, c = .clo f caps ∧ ∀ x ∈ p.ps, (lk x.t).wf ∧ T.fn f (.int .i64 x.t :: caps) = some (.p (lk x.t).enc, [])
 mu : ∀ f a H, T.mu f a H = none
structure TVal (T : Tab) : Prop where
 a1 : T.fn 68 = za (g1 rn)
 a2 : T.fn 69 = za (f1 uZ)
 a3 : T.fn 75 = za nH
 a4 : T.fn 70 = za (f2 xK)
 a5 : T.fn 74 = za (f2 fy)
structure Bd where
 id : Int
 x : Fr
def Bd.enc (b : Bd) : PVal := .agg [.int .i64 b.id, .bool b.x.s, .lst (b.x.n.map u64), .lst (b.x.d.map u64)]
end Go.Proofs.YtgbjjikaenlkmaaGreat

namespace Go.Proofs.YtgbjjikaenlkmaaGreat
open Go Go.Abs Go.Limbs
set_option maxRecDepth 20000
abbrev QP := List (Rat × Int)
def okQ : Int → QP → Prop
 | _, [] => True
 | a, x :: r => a < x.2 ∧ x.1 ≠ 0 ∧ okQ x.2 r
structure Qo where
 ps : QP
 c : Rat
def SmP (k : Nat) (l : QP) : Prop := ∀ x ∈ l, Sm k x.1
structure Qo.Is (p : Qo) (k : Nat) : Prop where
 ok : okQ (-1) p.ps
 sp : SmP k p.ps
 sc : Sm k p.c
theorem SmP.mono {j k : Nat} {l : QP} (h : SmP j l) (hk : j ≤ k) : SmP k l := fun x hx => Sm_mono (h x hx) hk
theorem Qo.Is.mono {p : Qo} {j k : Nat} (h : p.Is j) (hk : j ≤ k) : p.Is k := ⟨h.ok, h.sp.mono hk, Sm_mono h.sc hk⟩
theorem okQ.mono : ∀ {l : QP} {a b : Int}, okQ b l → a ≤ b → okQ a l
 | [], _, _, _, _ => trivial
 | x :: r, a, b, h, hab => ⟨by have := h.1; omega, h.2⟩
end Go.Proofs.YtgbjjikaenlkmaaGreat

namespace Go.Proofs.YtgbjjikaenlkmaaGreat
open Go Go.Abs Go.Limbs
variable {base : Prot}
set_option maxRecDepth 20000
attribute [local irreducible] vc
attribute [local simp] za zh freezeL fuel zk u64 au
def pw : Qo := ⟨[(2, 1), (-1, 4)], 3⟩
theorem add_lit {p q r : Rat} (hp : Sm 64 p) (hq : Sm 64 q) (hr : Sm 64 r) (e : p + q = r) : j6 (ofQ p) (ofQ q) = (ofQ r, 0) := by rw [aG hp hq, e, bB hr]
def oC : List PVal → Option PVal
 | [] => some (.bool true)
 | _ => none
theorem keepT {l m : zb} {n : Nat} (h : l.take n = m.take n) (k : Nat) (hk : k < n) : l[k]? = m[k]? := by
 have h1 : (l.take n)[k]? = (m.take n)[k]? := by rw [h]
 rwa [List.getElem?_take, List.getElem?_take, if_pos hk, if_pos hk] at h1
theorem yh : ∀ {l m r : List Pa}, xe l → xe m → qB l m = some r → xe r
 | [], m, r, _, hm, h => by
  rw [qB] at h; cases h; exact hm
 | x :: l, [], r, hl, _, h => by
  rw [qB] at h; cases h; exact hl
 | x :: l, y :: m, r, hl, hm, h => by
  have hx := hl x (by simp)
  have hy := hm y (by simp)
  have hl' : xe l := fun z hz => hl z (by simp [hz])
  have hm' : xe m := fun z hz => hm z (by simp [hz])
  rw [qB] at h
  split at h
  ·rw [Option.map_eq_some_iff] at h
   obtain ⟨s, hs, rfl⟩ := h
   exact List.forall_mem_cons.2 ⟨hx, yh hl' hm hs⟩
  ·split at h
   ·rw [Option.map_eq_some_iff] at h
    obtain ⟨s, hs, rfl⟩ := h
    exact List.forall_mem_cons.2 ⟨hy, yh hl hm' hs⟩
   ·split at h
    ·rw [Option.map_eq_some_iff] at h
     obtain ⟨s, hs, rfl⟩ := h
     have := yh hl' hm' hs
     split
     ·exact this
     ·exact List.forall_mem_cons.2 ⟨xd _ _, this⟩
    ·cases h
termination_by l m => l.length + m.length
theorem pp {k : Fr} : ∀ {l r : List Pa}, kd k l = some r → xe r
 | [], r, h => by rw [kd] at h; cases h; exact fun x hx => (by cases hx)
 | x :: l, r, h => by
  rw [kd] at h
  split at h
  ·rw [Option.map_eq_some_iff] at h
   obtain ⟨s, hs, rfl⟩ := h
   exact List.forall_mem_cons.2 ⟨nL _ _, pp hs⟩
  ·cases h
theorem wf_addPo {p q : Po} (hp : p.wf) (hq : q.wf) : (aE p q).1.wf := by
 unfold aE
 split
 ·split
  ·cases h : qB p.ps q.ps with
   | none => exact j8
   | some r => exact ⟨yh hp.1 hq.1 h, xd _ _⟩
  ·exact j8
 ·exact j8
theorem pk (p : Po) (k : Fr) : (jS p k).1.wf := by
 unfold jS
 split
 ·split
  ·split
   ·exact ⟨fun x hx => (by cases hx), nL _ _⟩
   ·cases h : kd k p.ps with
    | none => exact j8
    | some r => exact ⟨pp h, nL _ _⟩
  ·exact j8
 ·exact j8
end Go.Proofs.YtgbjjikaenlkmaaGreat

namespace Go.Proofs.YtgbjjikaenlkmaaGreat
open Go Go.Abs
def lf45 : LFunc := ⟨65,[.cell 4 7 true,.slot 5,.slot 6],.seq (.region [Oa 3 (.newv 4 76 (Tm 1)),Oa 4 (.newv 7 78 (.cst Za)),Oa 5 (.mov Kg),Oa 6 (.mov (Kz 0))]) (.seq (.seq (.region [Om 8 0,Oa 9 (.bin .eql (Tm 8) (Kz 4))]) (.cond (Tm 9) (.region [Oa 0 (.mov (Kz 3)),Oa 5 (.mov Kt)]) (.skip))) (.seq (.seq (.region [Om 10 0,Oa 11 (.call 76 [Tm 10]),Oa 12 (.un .not (Tm 11)),Om 13 12,Od 14 13 (.load 4 true (Tm 3)),Od 15 13 (.call 68 [Tm 14]),Od 16 13 (.un .not (Tm 15)),Ou 17 13 16]) (.cond (Tm 17) (.seq (.region [Oq 18 7 true 4,Oy 7 4 18,Oa 5 (.mov Kg),Oa 6 (.mov (Kz 1))]) (.ret)) (.skip))) (.seq (.region [Om 19 0,Oq 20 4 true 3,Oa 21 (.call 77 [Tm 20]),Oz 22 0 4,Oy 1 22 19,Oz 23 1 4,Oy 4 23 21]) (.seq (.region [Om 24 0,Oq 25 4 true 3,Oa 26 (.call 78 [Tm 24,Tm 25]),Oa 7 (.newv 3 33 (.cst Zr)),Oy 3 7 26]) (.seq (.seq (.region [Oq 27 3 true 7,Oa 28 (.call 71 [Tm 27]),Oa 29 (.bin .eql (Tm 28) (Kz 0))]) (.cond (Tm 29) (.seq (.region [Oq 30 7 true 4,Om 31 5,Oy 7 4 30,Om 5 31,Oa 6 (.mov (Kz 0))]) (.ret)) (.skip))) (.seq (.seq (.region [Oz 32 0 3,Oq 33 1 false 32,Oa 34 (.len (Tm 33)),Oa 35 (.bin .eql (Tm 34) (Kz 0))]) (.cond (Tm 35) (.seq (.region [Oz 36 1 3,Oq 37 3 true 36,Oa 38 (.call 71 [Tm 37]),Oa 39 (.call 43 [Tm 38,.cst (.p (.int .i64 1))]),Oz 40 1 4,Oz 41 1 40,Oy 3 41 39]) (.seq (.region [Oq 42 7 true 4,Om 43 5,Oy 7 4 42,Om 5 43,Oa 6 (.mov (Kz 0))]) (.ret))) (.skip))) (.seq (.seq (.regionW [(Oa 45 (.call 43 [.cst (.p (.int .i64 1)),.cst (.p (.int .i64 1))]),.s),(Oq 46 3 true 7,.s),(Oa 47 (.call 79 [Tm 45,Tm 46]),.f),(Om 44 47,.f),(Ox 48 44 0,.f),(Ox 49 44 1,.f),(Oy 3 7 48,.f),(Om 6 49,.f)]) (.seq (.region [Om 50 6,Oa 51 (.bin .eql (Tm 50) (Kz 0))]) (.cond (Tm 51) (.region [Oq 53 4 true 3,Oq 54 3 true 7,Oa 55 (.call 41 [Tm 53,Tm 54]),Om 52 55,Ox 56 52 0,Ox 57 52 1,Oz 58 1 4,Oy 4 58 56,Om 6 57]) (.skip)))) (.seq (.seq (.region [Om 59 6,Oa 60 (.bin .neq (Tm 59) (Kz 0))]) (.cond (Tm 60) (.seq (.region [Oa 61 (.build Za []),Om 62 6,Oy 7 4 61,Oa 5 (.mov Kg),Om 6 62]) (.ret)) (.skip))) (.seq
 (.region [Oq 63 7 true 4,Om 64 5,Oy 7 4 63,Om 5 64,Oa 6 (.mov (Kz 0))]) (.ret))))))))))⟩
theorem low45 : zi Tryz.prog gl0 45 = some lf45 := Go.Abs.lowF (by kernel_rfl)
def lf76 : LFunc := ⟨13,[.slot 2],.seq (.region [Oa 2 (.mov Kg)]) (.seq (.region [Om 3 0,Oa 4 (.bin .eql (Tm 3) (Kz 1)),Om 5 4,Oo 6 5 0,Od 7 5 (.bin .eql (Tm 6) (Kz 2)),Ou 8 5 7,Om 9 8,Oo 10 9 0,Od 11 9 (.bin .eql (Tm 10) (Kz 3)),Ou 12 9 11,Om 2 12]) (.ret))⟩
theorem low76 : zi Tryz.prog gl0 76 = some lf76 := Go.Abs.lowF (by kernel_rfl)
def lf78 : LFunc := ⟨33,[.cell 4 3 true],.seq (.region [Oa 3 (.newv 4 76 (Tm 1)),Oa 4 (.newv 3 33 (.cst Zr))]) (.seq (.region [Oz 6 1 3,Oq 7 3 true 6,Oa 5 (.newv 3 33 (.cst Zr)),Oy 3 5 7]) (.seq (.seq (.region [Oz 8 0 3,Oq 9 1 false 8,Oa 10 (.len (Tm 9)),Oa 11 (.bin .gtr (Tm 10) (Kz 0))]) (.cond (Tm 11) (.region [Oz 12 0 3,Oq 13 1 false 12,Oa 14 (.iadr 4 (Tm 13) (Kz 0)),Oz 15 0 14,Oq 16 3 true 15,Oy 3 5 16]) (.skip))) (.seq (.seq (.region [Oq 17 3 true 5,Oa 18 (.call 71 [Tm 17]),Oa 19 (.bin .lss (Tm 18) (Kz 0)),Om 20 19,Oj 21 20 0,Oc 22 20 (.bin .neq (Tm 21) (Kz 3)),Oj 23 20 22,Od 24 23 (.fadr 0 (Tm 3)),Od 25 23 (.load 1 false (Tm 24)),Od 26 23 (.len (Tm 25)),Od 27 23 (.bin .eql (Tm 26) (Kz 0)),Oc 28 20 (.pick (Tm 23) Kt (Tm 27)),Ot 29 20 28]) (.cond (Tm 29) (.region [Oq 30 3 true 5,Oa 31 (.call 118 [Tm 30]),Oy 3 5 31]) (.skip))) (.seq (.region [Oq 32 3 true 5,Oy 3 4 32]) (.ret)))))⟩
theorem low78 : zi Tryz.prog gl0 78 = some lf78 := Go.Abs.lowF (by kernel_rfl)
def lf40 : LFunc := ⟨23,[.cell 4 7 true,.slot 5],.seq (.region [Oa 4 (.newv 7 78 (.cst Za)),Oa 5 (.mov (Kz 0))]) (.seq (.seq (.region [Om 6 0,Om 7 1,Oa 8 (.bin .eql (Tm 6) (Tm 7)),Om 9 8,Oo 10 9 0,Oo 11 9 1,Od 12 9 (.minmax false (Tm 10) (Tm 11)),Od 13 9 (.bin .lss (Tm 12) (Kz 0)),Ou 14 9 13]) (.cond (Tm 14) (.seq (.region [Oa 15 (.build Za []),Oy 7 4 15,Oa 5 (.mov (Kz 1))]) (.ret)) (.skip))) (.seq (.region [Om 16 0,Om 17 1,Oa 18 (.minmax false (Tm 16) (Tm 17)),Om 19 0,Om 20 1,Oa 21 (.minmax true (Tm 19) (Tm 20)),Oa 22 (.build Za [(0,1,(Kz 5)),(5,1,(Tm 18)),(6,1,(Tm 21))]),Oy 7 4 22,Oa 5 (.mov (Kz 0))]) (.ret)))⟩
theorem low40 : zi Tryz.prog gl0 40 = some lf40 := Go.Abs.lowF (by kernel_rfl)
def lf46 : LFunc := ⟨9,[.cell 2 7 true,.slot 3],.seq (.region [Oa 2 (.newv 7 78 (.cst Za)),Oa 3 (.mov (Kz 0))]) (.seq (.seq (.region [Om 4 0,Oa 5 (.bin .lss (Tm 4) (Kz 0))]) (.cond (Tm 5) (.seq (.region [Oa 6 (.build Za []),Oy 7 2 6,Oa 3 (.mov (Kz 1))]) (.ret)) (.skip))) (.seq (.region [Om 7 0,Oa 8 (.build Za [(0,1,(Kz 6)),(5,1,(Tm 7))]),Oy 7 2 8,Oa 3 (.mov (Kz 0))]) (.ret)))⟩
theorem low46 : zi Tryz.prog gl0 46 = some lf46 := Go.Abs.lowF (by kernel_rfl)
def lf7 : LFunc := ⟨12,[.slot 4],.seq (.region [Oa 4 (.mov (Kz 0))]) (.seq (.region [Om 5 0,Om 6 1,Oa 7 (.bin .rem (Tm 5) (Tm 6)),Om 8 1,Oa 9 (.bin .add (Tm 7) (Tm 8)),Om 10 1,Oa 11 (.bin .rem (Tm 9) (Tm 10)),Om 4 11]) (.ret))⟩
theorem low7 : zi Tryz.prog gl0 7 = some lf7 := Go.Abs.lowF (by kernel_rfl)
end Go.Proofs.YtgbjjikaenlkmaaGreat

namespace Go.Proofs.YtgbjjikaenlkmaaGreat
open Go Go.Abs Go.Limbs
variable {base : Prot}
set_option maxRecDepth 20000
attribute [local irreducible] vc
attribute [local simp] za zh freezeL fuel zk u64 au
structure At where
 k : Int
 p : Po
 a : Int
 b : Int
def At.enc (x : At) : PVal := .agg [.int .i64 x.k, .lst (x.p.ps.map Pa.enc), .bool x.p.c.s, .lst (x.p.c.n.map u64), .lst (x.p.c.d.map u64), .int .i64 x.a, .int .i64 x.b]
def nt : PVal → Option At
 | .agg [.int .i64 k, .lst vs, .bool s, .lst xs, .lst ys, .int .i64 a, .int .i64 b] => match rY vs, jz xs, jz ys with | some ps, some l, some m => some ⟨k, ⟨ps, ⟨s, l, m⟩⟩, a, b⟩ | _, _, _ => none
 | _ => none
theorem decAt_enc {x : At} (h : x.p.wf) : nt x.enc = some x := by simp only [nt, At.enc, mo h.1, zY h.2.1, zY h.2.2]
theorem lR {v : PVal} {x : At} (h : nt v = some x) : v = x.enc ∧ x.p.wf := by
 unfold nt at h
 split at h
 ·rename_i k vs s xs ys a b
  split at h
  ·rename_i ps l m hp hl hm
   cases h
   obtain ⟨rfl, wp⟩ := dv hp
   obtain ⟨rfl, wl⟩ := zI hl
   obtain ⟨rfl, wm⟩ := zI hm
   exact ⟨rfl, wp, wl, wm⟩
  ·cases h
 ·cases h
def h1 (g : At → PVal) : List PVal → Option PVal
 | [a] => match nt a with | some x => some (g x) | none => none
 | _ => none
def h2 (g : At → At → PVal) : List PVal → Option PVal
 | [a, b] => match nt a, nt b with | some x, some y => some (g x y) | _, _ => none
 | _ => none
def rK (k : Int) : Bool := decide (k = 1) || (decide (k = 2) || decide (k = 3))
def unitF (c : Fr) (minus : Bool) : Bool := decide (c = ofQ 1) || (minus && decide (c = ofQ (-1)))
def headU (k : Int) : List Pa → Bool
 | [] => true
 | x :: _ => unitF x.c (decide (k ≠ 3))
def At.ok (x : At) : Bool :=
 if rK x.k = true then decide (x.a = 0) && (decide (x.b = 0) && (x.p.ok && headU x.k x.p.ps))
 else if x.k = 5 then decide (0 ≤ x.a) && (decide (x.a < x.b) && decide (x.p = zPo))
 else if x.k = 6 then decide (0 ≤ x.a) && (decide (x.b = 0) && decide (x.p = zPo))
 else false
def zAt : At := ⟨0, zPo, 0, 0⟩
def soF (k : Int) (s : Int) : Bool := if k = 1 then decide (s ≤ 0) else if k = 2 then decide (s < 0) else decide (s = 0)
def sSum : List PVal → Option PVal
 | [.int .i64 k] => some (.bool (rK k))
 | _ => none
theorem asum_ok : zH Tryz.prog base 76 (za sSum) := by
 refine zd zE Tab.none_ok ze low76 fun args z hs hf => ?_
 unfold sSum at hs
 split at hs
 case h_2 => cases hs
 rename_i k
 cases hs
 refine ⟨by simp [lf76], ?_⟩
 unfold rK
 have e : ∀ n : Int, (k == n) = decide (k = n) := fun n => rfl
 by_cases h1 : k = 1
 ·subst h1; simp [lf76]
 ·by_cases h2 : k = 2
  ·subst h2; simp [lf76]
  ·simp [lf76, e, h1, h2]
theorem sSum_at (k : Int) : sSum [.int .i64 k] = some (.bool (rK k)) := rfl
instance : DecidableEq At := fun x y => if h : x.k = y.k ∧ x.p = y.p ∧ x.a = y.a ∧ x.b = y.b then .isTrue (by cases x; cases y; obtain ⟨a, b, c, d⟩ := h; simp_all) else .isFalse (fun e => h (by rw [e]; exact ⟨rfl, rfl, rfl, rfl⟩))
def g1v (g : Po → PVal) : List PVal → Option PVal
 | [a] => match ua a with | some p => if (p.few && p.ok) = true then some (g p) else none | _ => none
 | _ => none
theorem g1v_at {g : Po → PVal} {p : Po} (h : p.wf) (f1 : p.few = true) (f2 : p.ok = true) : g1v g [p.enc] = some (g p) := by simp only [g1v, jO h, f1, f2, Bool.and_self, if_true]
theorem g1v_some {g : Po → PVal} {args : List PVal} {z : PVal} (h : g1v g args = some z) : ∃ p : Po, p.wf ∧ p.few = true ∧ p.ok = true ∧ args = [p.enc] ∧ z = g p := by
 unfold g1v at h
 split at h
 ·split at h
  ·rename_i p hp
   obtain ⟨rfl, w⟩ := vV hp
   split at h
   ·rename_i hf
    rw [Bool.and_eq_true] at hf
    cases h; exact ⟨p, w, hf.1, hf.2, rfl, rfl⟩
   ·cases h
  ·cases h
 ·cases h
def Tcp : Tab := Tab.none.with 75 (za nH)
theorem Tcp_ok : TabOk Tryz.prog base Tcp := Tab.with_ok Tab.none_ok xM
theorem Tcp_mu (f : FuncId) (a : List AVal) (H : zb) : Tcp.mu f a H = none := (rfl)
theorem Tcp_fns : Tcp.fn 75 = (za nH) := (rfl)
theorem lcopy_ok : zH Tryz.prog base 77 (za (g1v Po.enc)) := by
 refine zd zE Tcp_ok ze low77 fun args z hs hf => ?_
 obtain ⟨p, wp, fp, op, rfl, rfl⟩ := g1v_some hs
 refine ⟨by simp [lf77], ?_⟩
 have hlen := x4 fp
 have hm := uQ
 have v1 := dS wp.2 (uP op)
 simp only [Po.enc, Fr.enc] at v1 ⊢
 simp [lf77, v1, Tcp_mu, Tcp_fns]
 simp only [lf77_B0, zr]
 refine zo (fun fr H => ∃ (i : Nat) (x : AVal) (ex : zb), H = ⟨4, 0, false, [.p p.enc], 76⟩ :: ⟨4, 0, false, [.agg [x, .p (.bool p.c.s), .p (.lst (p.c.n.map u64)), .p (.lst (p.c.d.map u64))]], 76⟩ :: ex ∧
   i ≤ p.ps.length ∧ Grown 2 4 93 ((p.ps.take i).map Pa.enc) x ex ∧ fr 2 = .optr 1 0 0 0 ∧ fr 10 = .p (.lst (p.ps.map Pa.enc)) ∧ fr 11 = .p (.int .i64 p.ps.length) ∧ fr 12 = .p (.int .i64 i)) (fun fr _ => p.ps.length - zA (fr 12))
  ⟨0, .tight [], [], by simp [Po.enc], by omega, by simp; exact .nil _ _ _ _, by simp, by simp, by simp, by simp⟩ ?_
 rintro fr H ⟨i, x, ex, rfl, hi, hg, f2', f10, f11, f12⟩
 by_cases h1 : i < p.ps.length
 ·obtain ⟨y, hy⟩ : ∃ y, p.ps[i]? = some y := ⟨_, List.getElem?_eq_getElem h1⟩
  have hye := z3 hy
  have hw := zs (i := i) (by omega)
  have htk := sG hy
  have vy := dS (wp.1 y (List.mem_of_getElem? hy)) (dX op (List.mem_of_getElem? hy))
  have hnew : (p.ps.take (i + 1)).map Pa.enc = (p.ps.take i).map Pa.enc ++ [y.enc] := by rw [htk, List.map_append]; rfl
  obtain ⟨fl, hfl⟩ : ∃ fl, fl = (p.ps.take i).map Pa.enc := ⟨_, rfl⟩
  have hfll : fl.length ≤ 1000000 := by rw [hfl]; simp; omega
  rw [← hfl] at hg hnew
  obtain ⟨k', v', ex', happ, hg'⟩ := (hg.more [⟨4, 0, false, [.p y.enc], 93⟩, ⟨4, 0, false, [.p y.enc], 93⟩]).app
   (pre := [⟨4, 0, false, [.p p.enc], 76⟩, ⟨4, 0, false, [.agg [x, .p (.bool p.c.s), .p (.lst (p.c.n.map u64)), .p (.lst (p.c.d.map u64))]], 76⟩]) rfl (y := y.enc) rfl rfl (by omega) (bytes := 64) (by omega) (by omega)
  simp only [Fr.enc] at vy
  simp only [Po.enc, Pa.enc, List.cons_append, List.nil_append] at happ
  rcases hg.form with rfl | ⟨kk, nn, vv, rfl⟩
  all_goals
   simp [f10, f11, f12, h1, hye, Pa.enc, Po.enc]
   rw [zw]
   refine ⟨[], ?_⟩
   simp [f2', f10, f11, f12, vy, hw, zA, zO, -qC, happ, Tcp_mu, Tcp_fns]
   exact ⟨snoc2', ⟨i + 1, _, _, ⟨rfl, rfl⟩, by omega, by rw [← List.map_take, hnew]; exact hg', by omega⟩, by omega⟩
 ·have hil : i = p.ps.length := by omega
  rw [hil, List.take_length] at hg
  rcases hg with ⟨he, rfl⟩ | ⟨j, v, rfl, hj⟩
  ·have hnil : p.ps = [] := by simpa using he
   have hi0 : i = 0 := by rw [hil, hnil]; rfl
   subst hi0
   simp [f2', f11, f12, hnil, Po.enc]
  ·simp [f2', f11, f12, h1, hj, get2, xL, jh, Po.enc]
def jW (k : Int) (p : Po) : Fr := match p.ps with
 | [] => if z9 p.c < 0 then hZ p.c else p.c
 | x :: _ => if z9 x.c < 0 ∧ k ≠ 3 then hZ x.c else x.c
theorem fL {k : Int} {p : Po} (h : p.wf) : (jW k p).wf := by
 unfold jW
 split
 ·split
  ·exact zaj _
  ·exact h.2
 ·rename_i x r hx
  split
  ·exact zaj _
  ·exact h.1 x (by rw [hx]; simp)
def cJ : List PVal → Option PVal
 | [.int .i64 k, a] => match ua a with | some p => some (jW k p).enc | none => none
 | _ => none
theorem sSize9_at {k : Int} {p : Po} (h : p.wf) : cJ [.int .i64 k, p.enc] = some (jW k p).enc := by simp only [cJ, jO h]
def Tasz : Tab := (Tab.none.with 71 (za (f1 vH))).with 118 (za (f1 o8))
theorem Tasz_ok : TabOk Tryz.prog base Tasz := Tab.with_ok (Tab.with_ok Tab.none_ok dV) qneg_ok
theorem ci (f : FuncId) (a : List AVal) (H : zb) : Tasz.mu f a H = none := (rfl)
theorem yc : Tasz.fn 71 = (za (f1 vH)) ∧ Tasz.fn 118 = (za (f1 o8)) := ⟨rfl, rfl⟩
theorem asize_ok : zH Tryz.prog base 78 (za cJ) := by
 refine zd zE Tasz_ok ze low78 fun args z hs hf => ?_
 unfold cJ at hs
 split at hs
 case h_2 => cases hs
 rename_i k a
 split at hs
 case h_2 => cases hs
 rename_i p hp
 obtain ⟨rfl, wp⟩ := vV hp
 cases hs
 refine ⟨by simp [lf78], ?_⟩
 have ek : (k != 3) = decide (k ≠ 3) := by rw [bne, show (k == 3) = decide (k = 3) from rfl]; simp
 obtain ⟨ps, pc⟩ := p
 cases ps with
 | nil =>
  have v1 : f1 vH [pc.enc] = some (.int .i64 (z9 pc)) := kZ wp.2
  have v2 : f1 o8 [pc.enc] = some (hZ pc).enc := kZ wp.2
  unfold jW
  simp only
  obtain ⟨nc, hnc⟩ : ∃ n, n = hZ pc := ⟨_, rfl⟩
  rw [← hnc] at v2 ⊢
  by_cases hs : z9 pc < 0
  ·by_cases h3 : k = 3
   ·subst h3
    rw [if_pos hs]
    simp only [Po.enc, Fr.enc, List.map_nil] at v1 v2 ⊢
    simp [lf78, v1, v2, hs, ci, yc]
   ·rw [if_pos hs]
    rw [decide_eq_true h3] at ek
    simp only [Po.enc, Fr.enc, List.map_nil] at v1 v2 ⊢
    simp [lf78, v1, v2, hs, ek, ci, yc]
  ·rw [if_neg hs]
   simp only [Po.enc, Fr.enc, List.map_nil] at v1 v2 ⊢
   simp [lf78, v1, hs, ci, yc]
 | cons x ps =>
  have wx : x.c.wf := wp.1 x (by simp)
  have v1 : f1 vH [x.c.enc] = some (.int .i64 (z9 x.c)) := kZ wx
  have v2 : f1 o8 [x.c.enc] = some (hZ x.c).enc := kZ wx
  have hp1 : (0 : Int) < (ps.length : Int) + 1 := by omega
  have hp2 : ((ps.length : Int) + 1 == 0) = false := by simp; omega
  unfold jW
  simp only
  obtain ⟨nc, hnc⟩ : ∃ n, n = hZ x.c := ⟨_, rfl⟩
  rw [← hnc] at v2 ⊢
  by_cases hs : z9 x.c < 0
  ·by_cases h3 : k = 3
   ·subst h3
    rw [if_neg (by simp)]
    simp only [Po.enc, Fr.enc, Pa.enc, List.map_cons] at v1 v2 ⊢
    simp [lf78, v1, hs, hp1, hp2, ci, yc]
   ·rw [if_pos ⟨hs, h3⟩]
    rw [decide_eq_true h3] at ek
    simp only [Po.enc, Fr.enc, Pa.enc, List.map_cons] at v1 v2 ⊢
    simp [lf78, v1, v2, hs, ek, hp1, ci, yc]
  ·rw [if_neg (fun h => hs h.1)]
   simp only [Po.enc, Fr.enc, Pa.enc, List.map_cons] at v1 v2 ⊢
   simp [lf78, v1, hs, hp1, ci, yc]
end Go.Proofs.YtgbjjikaenlkmaaGreat
