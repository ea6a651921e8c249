/-
  What nat.Text computes: the decimal numeral. What nat.Parse computes, for texts of at most 90000 bytes. What a row's claim asks, and what the rows' listed variables give. The lowered code of the reference, each equal to what the program's form lowers to. What the reference's functions of sums, differences, products and the order compute, for at most 100000 limbs. No conditions beyond the lemmas' own hypotheses.
-/
import Derived.Test.YtgbjjikaenlkmaaGreatNatA
import Derived.Test.YtgbjjikaenlkmaaGreatAbsThree
import Derived.Lib.Builder
import Derived.Lib.UnsafeStr
import Derived.RegionTactic
import Derived.WalkKit
import Derived.ProofKit
import Derived.LaidMore
import Derived.OpenShut
import Derived.Stop.Joined
import Derived.SliceStrings
import Derived.Test.YtgbjjikaenlkmaaGreatAbsTwo
import Derived.Test.YtgbjjikaenlkmaaGreatProg
import Derived.KernelRfl
import Derived.Lib.Bytealg
import Derived.Laws.Externs
set_option linter.unusedSimpArgs false
set_option linter.unnecessarySimpa false
set_option linter.unusedVariables false
set_option linter.constructorNameAsVariable false

namespace Go.Proofs.YtgbjjikaenlkmaaGreat
open Go Go.RowKit Go.Abs
variable {base : Prot}
set_option maxRecDepth 20000
attribute [local simp] za zi freezeL fuel zk
end Go.Proofs.YtgbjjikaenlkmaaGreat

namespace Go.Proofs.YtgbjjikaenlkmaaGreat
open Go Go.Abs Go.Limbs
variable {base : Prot}
set_option maxRecDepth 20000
def eqO (a b : Option PVal) : Bool := match a, b with
 | some x, some y => eqP 5 x y
 | _, _ => false
theorem eqO_ok {a b : Option PVal} (h : eqO a b = true) : a = b := by
 unfold eqO at h
 split at h
 ·rw [oE _ _ _ h]
 ·cases h
end Go.Proofs.YtgbjjikaenlkmaaGreat

namespace Go.Proofs.YtgbjjikaenlkmaaGreat
open Go Go.Abs Go.RowKit
variable {base : Prot}
set_option maxRecDepth 20000
section
attribute [local irreducible] vc
attribute [local simp] za zi freezeL fuel zk
end
end Go.Proofs.YtgbjjikaenlkmaaGreat

namespace Go.Proofs.YtgbjjikaenlkmaaGreat
open Go Go.Abs Go.Limbs
variable {base : Prot}
set_option maxRecDepth 20000
attribute [local irreducible] vc
attribute [local simp] za zi freezeL fuel zk u64
def HasParts (H : zb) (b L : Nat) : Prop := ∃ j ver e, H[0]? = some ⟨1, 0, false, [.own j 0 L ver], 48⟩ ∧ j < b ∧ H[j]? = some e ∧ e.ver = ver
theorem sV {H : zb} {k q : Nat} (h : q ≠ k) : (freeze1 H k)[q]? = H[q]? := by
 unfold freeze1
 split
 ·rw [List.getElem?_set_ne (Ne.symm h)]
 ·rfl
theorem HasParts.freeze {H : zb} {b L k : Nat} (h : HasParts H b L) (hk : b ≤ k) (hb : 0 < b) : HasParts (freeze1 H k) b L := by
 obtain ⟨j, ver, e, h1, h2, h3, h4⟩ := h
 exact ⟨j, ver, e, by rw [sV (by omega)]; exact h1, h2, by rw [sV (by omega)]; exact h3, h4⟩
theorem HasParts.keep {H H' : zb} {b L : Nat} (h : HasParts H b L) (hb : 0 < b) (hk : ∀ q, q < b → H'[q]? = H[q]?) : HasParts H' b L := by
 obtain ⟨j, ver, e, h1, h2, h3, h4⟩ := h
 exact ⟨j, ver, e, by rw [hk 0 hb]; exact h1, h2, by rw [hk j h2]; exact h3, h4⟩
end Go.Proofs.YtgbjjikaenlkmaaGreat

namespace Go.Proofs.YtgbjjikaenlkmaaGreat
open Go Go.Abs Go.Limbs
variable {base : Prot}
set_option maxRecDepth 20000
section
attribute [local irreducible] vc
attribute [local simp] za zi freezeL fuel zk
end
end Go.Proofs.YtgbjjikaenlkmaaGreat

namespace Go.Proofs.YtgbjjikaenlkmaaGreat
open Go Go.Abs Go.Limbs Go.RowKit
variable {base : Prot}
set_option maxRecDepth 20000
end Go.Proofs.YtgbjjikaenlkmaaGreat

namespace Go.Proofs.YtgbjjikaenlkmaaGreat
open Go Go.Abs Go.Limbs
variable {base : Prot}
set_option maxRecDepth 20000
attribute [local irreducible] vc
attribute [local simp] za zi freezeL fuel zk u64 au
def dc : List PVal → Option PVal
 | [.lst xs, .lst ys] => match jJ xs, jJ ys with | some a, some b => some (.bool (decide (a = b))) | _, _ => none
 | _ => none
theorem yI {a b : List Nat} (ha : Wf a) (hb : Wf b) : dc [.lst (a.map u64), .lst (b.map u64)] = some (.bool (decide (a = b))) := by simp only [dc, zX ha, zX hb]
theorem sameL_ok : zG Tryz.prog base 62 (za dc) := by
 refine zd zB Tab.none_ok ze low62 fun args z hs hf => ?_
 unfold dc at hs
 split at hs
 case h_2 => cases hs
 rename_i xs ys
 split at hs
 case h_2 => cases hs
 rename_i a b ha hb
 obtain ⟨rfl, wa⟩ := zI ha
 obtain ⟨rfl, wb⟩ := zI hb
 cases hs
 have hlen := (hf (.lst (a.map u64)) (by simp)).lst.1
 unfold maxLen at hlen
 simp only [List.length_map] at hlen
 refine ⟨by simp [lf62], ?_⟩
 by_cases hl : a.length = b.length
 ·have hl1 : ((a.length : Int) != b.length) = false := by simp [hl]
  simp [lf62, hl1]
  simp only [lf62_B0, zr]
  refine zo (fun fr H => ∃ i : Nat, H = [] ∧ i ≤ a.length ∧ fr 0 = .p (.lst (a.map u64)) ∧ fr 1 = .p (.lst (b.map u64)) ∧ fr 5 = .p (.int .i64 i) ∧ a.take i = b.take i) (fun fr _ => a.length - zD (fr 5)) ⟨0, rfl, by omega, by simp, by simp, by simp, by simp⟩ ?_
  rintro fr H ⟨i, rfl, hi, h0, h1, h5, hj⟩
  by_cases h : i < a.length
  ·obtain ⟨u, hx⟩ : ∃ u, a[i]? = some u := ⟨_, List.getElem?_eq_getElem h⟩
   obtain ⟨v, hy⟩ : ∃ v, b[i]? = some v := ⟨_, List.getElem?_eq_getElem (show i < b.length by omega)⟩
   have hib : i < b.length := by omega
   have hnx := zZ hx
   have hny := zZ hy
   by_cases he : u = v
   ·subst he
    have hj' : a.take (i + 1) = b.take (i + 1) := by rw [List.take_add_one, List.take_add_one, hj, hx, hy]
    simp [h0, h1, h5, h, hib, hnx, hny, zs (i := i) (by omega), zD]
    exact ⟨⟨i + 1, by omega, rfl, hj'⟩, by omega⟩
   ·have hne : ¬ a = b := by
     rintro rfl
     rw [hx] at hy
     exact he (by cases hy; rfl)
    have hb : ((u : Int) != (v : Int)) = true := by simp; omega
    have hb2 : ((u : Int) == (v : Int)) = false := beq_false_of_ne (by omega)
    simp [h0, h1, h5, h, hib, hnx, hny, hb, hne]
  ·have hil : i = a.length := by omega
   subst hil
   have hxy : a = b := by
    rw [List.take_of_length_le (Nat.le_refl _), List.take_of_length_le (by omega)] at hj
    exact hj
   simp [h0, h5, hxy]
 ·have hl1 : ((a.length : Int) != b.length) = true := by simp; omega
  have hne : ¬ a = b := fun e => hl (by rw [e])
  simp [lf62, hl1, hne]
def Tsm : Tab := Tab.none.with 62 (za dc)
theorem Tsm_ok : TabOk Tryz.prog base Tsm := Tab.with_ok Tab.none_ok sameL_ok
theorem Tsm_mu (f : FuncId) (a : List AVal) (H : zb) : Tsm.mu f a H = none := (rfl)
theorem Tsm_fn : Tsm.fn 62 = za dc := (rfl)
end Go.Proofs.YtgbjjikaenlkmaaGreat

namespace Go.Abs
open Go.ChangeShapes Go.WideShapes Go.ChangeAt Go.WideMaps Go.WideElems Go.RowKit Go.Limbs
section
variable {H : Type} {enc : TypeId × Value → H} {P : Program}
theorem l8 {f : Func} {s : ChangeSpec} {apart fresh handsOn again : Bool} {W W' : World} {args : Array Value} {v : Value} {ds gs : List (DataW H)} {before pa pv : List MemPlace}
  (hW : DataW.Whole enc P f.params.toList s.vars apart W args.toList ds gs before)
  (hres : ∀ (b : Nat) (sp : Nat → Bool) (hd : Bool), DataW.TrodAll enc P W' b sp hd f.resultTypes.toList (v.resultList f.resultTypes.size) (s.fn H (ds ++ gs)).results [])
  (hargs : ∀ sp : Nat → Bool, (∀ p ∈ before, sp p.block = true) → DataW.TrodAll enc P W' 0 sp true f.params.toList args.toList (s.fn H (ds ++ gs)).args pa)
  (hvars : ∀ sp : Nat → Bool, (∀ p ∈ before, sp p.block = true) → DataW.TrodVars enc P W' sp s.vars (s.fn H (ds ++ gs)).vars pv)
  (hps : before = pa ++ pv) (hb : RowKit.Below W.heap.size W W')
  (hok : ∀ (j : Nat) (t : TypeId) (r : Value), f.resultTypes[j]? = some t → (v.resultList f.resultTypes.size)[j]? = some r → Value.okWide P W' .any 0 t r) :
  s.post enc P f apart fresh handsOn again W args v W' := by
 have hlt : ∀ p ∈ before, p.block < W.heap.size := fun p hp => hW.lt p hp
 have hold : ∀ p ∈ before, (fun b => decide (b < W.heap.size)) p.block = true := fun p hp => by simpa using hlt p hp
 refine ⟨ds, gs, before, [], pa, pv, hW, hres _ _ _, hargs _ hold, hvars _ hold, World.keptBut_mono (fun p hp => ⟨hp, ?_⟩) (hb.frame (· ∈ before)), fun _ => ?_⟩
 ·rw [hps, List.mem_append] at hp
  exact Or.inr hp
 ·obtain ⟨_, _, _, _, _, hz, hn⟩ := hW
  refine ⟨hok, _, _, ([] ++ pa) ++ pv, ⟨[] ++ pa, pv, trodAll_append (hargs _ (fun _ _ => rfl)) (hres _ _ _), hvars _ (fun _ _ => rfl), rfl, ?_, ?_⟩, ?_⟩
  ·intro b off hp
   have hin : MemPlace.cell b off ∈ before := by rw [hps]; simpa using hp
   rw [hb.frozen (hlt _ hin)]
   exact hz b off hin
  ·intro ha
   have := hn ha
   rw [hps] at this
   simpa using this
  ·intro p hp _
   rw [hps]
   simpa using hp
end
section
variable {H : Type} {enc : TypeId × Value → H} {P : Program} {W : World} {sp : Nat → Bool}
end
end Go.Abs

namespace Go.Proofs.YtgbjjikaenlkmaaGreat
open Go Go.Abs
def lf102 : LFunc := ⟨20,[.slot 2],.seq (.region [Oa 2 (.mov Kg)]) (.seq (.region [Om 3 0,Oa 4 (.len (Tm 3)),Oa 5 (.bin .leq (Tm 4) (Kz 64)),Om 6 5,Oj 7 6 0,Oc 8 6 (.len (Tm 7)),Oc 9 6 (.bin .eql (Tm 8) (Kz 0)),Oj 10 6 9,Oo 11 10 0,Oo 12 10 0,Od 13 10 (.len (Tm 12)),Od 14 10 (.bin .sub (Tm 13) (Kz 1)),Od 15 10 (.iadr 1 (Tm 11) (Tm 14)),Od 16 10 (.load 1 false (Tm 15)),Od 17 10 (.bin .neq (Tm 16) (.cst (.p (.int .u64 0)))),Oc 18 6 (.pick (Tm 10) Kt (Tm 17)),Ot 19 6 18,Om 2 19]) (.ret))⟩
theorem low102 : zf Tryz.prog gl0 102 = some lf102 := Go.Abs.lowF (by kernel_rfl)
def lf132 : LFunc := ⟨18,[.slot 2],.seq (.region [Oa 2 (.mov (Kz 0))]) (.seq (.seq (.region [Om 3 0,Oa 4 (.len (Tm 3)),Oa 5 (.bin .eql (Tm 4) (Kz 0))]) (.cond (Tm 5) (.seq (.region [Oa 2 (.mov (Kz 0))]) (.ret)) (.skip))) (.seq (.region [Om 6 0,Oa 7 (.len (Tm 6)),Oa 8 (.bin .sub (Tm 7) (Kz 1)),Oa 9 (.bin .mul (Kz 64) (Tm 8)),Om 10 0,Om 11 0,Oa 12 (.len (Tm 11)),Oa 13 (.bin .sub (Tm 12) (Kz 1)),Oa 14 (.iadr 1 (Tm 10) (Tm 13)),Oq 15 1 false 14,Oa 16 (.call 100 [Tm 15]),Oa 17 (.bin .add (Tm 9) (Tm 16)),Om 2 17]) (.ret)))⟩
theorem low132 : zf Tryz.prog gl0 132 = some lf132 := Go.Abs.lowF (by kernel_rfl)
def lf66_B0 : LCode := .block 0 (.loop (.seq (.seq (.region [Om 6 3,Oa 7 (.bin .gtr (Tm 6) (Kz 0)),Om 8 7,Oj 9 8 0,Oj 10 8 3,Oc 11 8 (.bin .sub (Tm 10) (Kz 1)),Oc 12 8 (.iadr 1 (Tm 9) (Tm 11)),Oc 13 8 (.load 1 false (Tm 12)),Oc 14 8 (.bin .eql (Tm 13) (.cst (.p (.int .u64 0)))),Ot 15 8 14]) (.cond (Tm 15) (.skip) (.exit 0))) (.block 1 (.region [Om 16 3,Oa 17 (.bin .sub (Tm 16) (Kz 1)),Om 3 17]))))
def lf66 : LFunc := ⟨23,[.slot 2],.seq (.region [Oa 2 (.mov (.cst (.tight [])))]) (.seq (.region [Om 4 0,Oa 5 (.len (Tm 4)),Om 3 5]) (.seq (lf66_B0) (.seq (.region [Oa 18 (.buildSl 1 147 (.p (.int .u64 0)) 0 []),Om 19 0,Om 20 3,Oa 21 (.slSl 1 (Tm 19) none (some (Tm 20)) none),Oa 22 (.app 1 8 147 (Tm 18) (Tm 21)),Om 2 22]) (.ret))))⟩
theorem low66 : zf Tryz.prog gl0 66 = some lf66 := Go.Abs.lowF (by kernel_rfl)
def lf158_B0 : LCode := .block 0 (.loop (.seq (.seq (.region [Om 12 7,Om 13 0,Oa 14 (.len (Tm 13)),Oa 15 (.bin .lss (Tm 12) (Tm 14)),Om 16 15,Oo 17 16 7,Oo 18 16 1,Od 19 16 (.len (Tm 18)),Od 20 16 (.bin .lss (Tm 17) (Tm 19)),Ou 21 16 20]) (.cond (Tm 21) (.skip) (.exit 0))) (.seq (.block 1 (.seq (.region [Oa 8 (.mov (.cst (.p (.int .u64 0)))),Oa 9 (.mov (.cst (.p (.int .u64 0))))]) (.seq (.seq (.region [Om 24 7,Om 25 0,Oa 26 (.len (Tm 25)),Oa 27 (.bin .lss (Tm 24) (Tm 26))]) (.cond (Tm 27) (.region [Om 28 0,Om 29 7,Oa 30 (.iadr 1 (Tm 28) (Tm 29)),Oq 31 1 false 30,Om 8 31]) (.skip))) (.seq (.seq (.region [Om 32 7,Om 33 1,Oa 34 (.len (Tm 33)),Oa 35 (.bin .lss (Tm 32) (Tm 34))]) (.cond (Tm 35) (.region [Om 36 1,Om 37 7,Oa 38 (.iadr 1 (Tm 36) (Tm 37)),Oq 39 1 false 38,Om 9 39]) (.skip))) (.seq (.region [Om 41 8,Om 42 9,Om 43 6,Oa 44 (.calle 144 [Tm 41,Tm 42,Tm 43]),Om 40 44,Ox 45 40 0,Ox 46 40 1,Om 10 45,Om 11 46]) (.seq (.region [Om 47 5,Om 48 10,Oa 49 (.buildSl 1 147 (.p (.int .u64 0)) 1 [(0,(Tm 48))]),Oa 50 (.app 1 8 147 (Tm 47) (Tm 49)),Om 5 50]) (.region [Om 51 11,Om 6 51]))))))) (.region [Om 22 7,Oa 23 (.bin .add (Tm 22) (Kz 1)),Om 7 23]))))
def lf158 : LFunc := ⟨60,[.slot 4],.seq (.region [Oa 4 (.mov (.cst (.tight [])))]) (.seq (.region [Oa 5 (.mov (.cst (.tight [])))]) (.seq (.region [Oa 6 (.mov (.cst (.p (.int .u64 0))))]) (.seq (.seq (.region [Oa 7 (.mov (Kz 0))]) (lf158_B0)) (.seq (.seq (.region [Om 52 6,Oa 53 (.bin .gtr (Tm 52) (.cst (.p (.int .u64 0))))]) (.cond (Tm 53) (.region [Om 54 5,Om 55 6,Oa 56 (.buildSl 1 147 (.p (.int .u64 0)) 1 [(0,(Tm 55))]),Oa 57 (.app 1 8 147 (Tm 54) (Tm 56)),Om 5 57]) (.skip))) (.seq (.region [Om 58 5,Oa 59 (.call 66 [Tm 58]),Om 4 59]) (.ret))))))⟩
theorem low158 : zf Tryz.prog gl0 158 = some lf158 := Go.Abs.lowF (by kernel_rfl)
def lf120_B0 : LCode := .block 0 (.loop (.seq (.seq (.region [Om 19 5,Oa 20 (.bin .geq (Tm 19) (Kz 0))]) (.cond (Tm 20) (.skip) (.exit 0))) (.seq (.block 1 (.seq (.seq (.regionD [Om 23 0,Om 24 5,Oa 25 (.iadr 1 (Tm 23) (Tm 24)),Oq 26 1 false 25,Om 27 1,Om 28 5,Oa 29 (.iadr 1 (Tm 27) (Tm 28)),Oq 30 1 false 29,Oa 31 (.bin .lss (Tm 26) (Tm 30))]) (.cond (Tm 31) (.seq (.region [Oa 4 (.mov (Kz (-1)))]) (.ret)) (.skip))) (.seq (.regionD [Om 32 0,Om 33 5,Oa 34 (.iadr 1 (Tm 32) (Tm 33)),Oq 35 1 false 34,Om 36 1,Om 37 5,Oa 38 (.iadr 1 (Tm 36) (Tm 37)),Oq 39 1 false 38,Oa 40 (.bin .gtr (Tm 35) (Tm 39))]) (.cond (Tm 40) (.seq (.region [Oa 4 (.mov (Kz 1))]) (.ret)) (.skip))))) (.region [Om 21 5,Oa 22 (.bin .sub (Tm 21) (Kz 1)),Om 5 22]))))
def lf120 : LFunc := ⟨41,[.slot 4],.seq (.region [Oa 4 (.mov (Kz 0))]) (.seq (.seq (.region [Om 6 0,Oa 7 (.len (Tm 6)),Om 8 1,Oa 9 (.len (Tm 8)),Oa 10 (.bin .neq (Tm 7) (Tm 9))]) (.cond (Tm 10) (.seq (.seq (.region [Om 11 0,Oa 12 (.len (Tm 11)),Om 13 1,Oa 14 (.len (Tm 13)),Oa 15 (.bin .lss (Tm 12) (Tm 14))]) (.cond (Tm 15) (.seq (.region [Oa 4 (.mov (Kz (-1)))]) (.ret)) (.skip))) (.seq (.region [Oa 4 (.mov (Kz 1))]) (.ret))) (.skip))) (.seq (.seq (.region [Om 16 0,Oa 17 (.len (Tm 16)),Oa 18 (.bin .sub (Tm 17) (Kz 1)),Om 5 18]) (lf120_B0)) (.seq (.region [Oa 4 (.mov (Kz 0))]) (.ret))))⟩
theorem low120 : zf Tryz.prog gl0 120 = some lf120 := Go.Abs.lowF (by kernel_rfl)
def lf134_B0 : LCode := .block 0 (.loop (.seq (.seq (.region [Om 11 7,Om 12 0,Oa 13 (.len (Tm 12)),Oa 14 (.bin .lss (Tm 11) (Tm 13))]) (.cond (Tm 14) (.skip) (.exit 0))) (.seq (.block 1 (.seq (.region [Oa 8 (.mov (.cst (.p (.int .u64 0))))]) (.seq (.seq (.region [Om 17 7,Om 18 1,Oa 19 (.len (Tm 18)),Oa 20 (.bin .lss (Tm 17) (Tm 19))]) (.cond (Tm 20) (.region [Om 21 1,Om 22 7,Oa 23 (.iadr 1 (Tm 21) (Tm 22)),Oq 24 1 false 23,Om 8 24]) (.skip))) (.seq (.region [Om 26 0,Om 27 7,Oa 28 (.iadr 1 (Tm 26) (Tm 27)),Oq 29 1 false 28,Om 30 8,Om 31 6,Oa 32 (.calle 148 [Tm 29,Tm 30,Tm 31]),Om 25 32,Ox 33 25 0,Ox 34 25 1,Om 9 33,Om 10 34]) (.seq (.region [Om 35 5,Om 36 9,Oa 37 (.buildSl 1 147 (.p (.int .u64 0)) 1 [(0,(Tm 36))]),Oa 38 (.app 1 8 147 (Tm 35) (Tm 37)),Om 5 38]) (.region [Om 39 10,Om 6 39])))))) (.region [Om 15 7,Oa 16 (.bin .add (Tm 15) (Kz 1)),Om 7 16]))))
def lf134 : LFunc := ⟨42,[.slot 4],.seq (.region [Oa 4 (.mov (.cst (.tight [])))]) (.seq (.region [Oa 5 (.mov (.cst (.tight [])))]) (.seq (.region [Oa 6 (.mov (.cst (.p (.int .u64 0))))]) (.seq (.seq (.region [Oa 7 (.mov (Kz 0))]) (lf134_B0)) (.seq (.region [Om 40 5,Oa 41 (.call 66 [Tm 40]),Om 4 41]) (.ret)))))⟩
theorem low134 : zf Tryz.prog gl0 134 = some lf134 := Go.Abs.lowF (by kernel_rfl)
def lf124_B0 : LCode := .block 2 (.loop (.seq (.seq (.region [Om 27 8,Om 28 1,Oa 29 (.len (Tm 28)),Oa 30 (.bin .lss (Tm 27) (Tm 29))]) (.cond (Tm 30) (.skip) (.exit 2))) (.seq (.block 3 (.seq (.regionD [Om 34 0,Om 35 6,Oa 36 (.iadr 1 (Tm 34) (Tm 35)),Oq 37 1 false 36,Om 38 1,Om 39 8,Oa 40 (.iadr 1 (Tm 38) (Tm 39)),Oq 41 1 false 40,Oa 42 (.call 143 [Tm 37,Tm 41]),Om 33 42,Ox 43 33 0,Ox 44 33 1,Om 9 43,Om 10 44]) (.seq (.region [Om 46 5,Om 47 6,Om 48 8,Oa 49 (.bin .add (Tm 47) (Tm 48)),Oa 50 (.iadr 1 (Tm 46) (Tm 49)),Oq 51 1 false 50,Om 52 10,Oa 53 (.calle 144 [Tm 51,Tm 52,.cst (.p (.int .u64 0))]),Om 45 53,Ox 54 45 0,Ox 55 45 1,Om 11 54,Om 12 55]) (.seq (.region [Om 57 11,Om 58 7,Oa 59 (.calle 144 [Tm 57,Tm 58,.cst (.p (.int .u64 0))]),Om 56 59,Ox 60 56 0,Ox 61 56 1,Om 13 60,Om 14 61]) (.seq (.region [Om 62 5,Om 63 6,Om 64 8,Oa 65 (.bin .add (Tm 63) (Tm 64)),Om 66 13,Oa 67 (.iadr 1 (Tm 62) (Tm 65)),Oy 1 67 66]) (.region [Om 68 9,Om 69 12,Oa 70 (.bin .add (Tm 68) (Tm 69)),Om 71 14,Oa 72 (.bin .add (Tm 70) (Tm 71)),Om 7 72])))))) (.region [Om 31 8,Oa 32 (.bin .add (Tm 31) (Kz 1)),Om 8 32]))))
def lf124_B1 : LCode := .block 0 (.loop (.seq (.seq (.region [Om 21 6,Om 22 0,Oa 23 (.len (Tm 22)),Oa 24 (.bin .lss (Tm 21) (Tm 23))]) (.cond (Tm 24) (.skip) (.exit 0))) (.seq (.block 1 (.seq (.region [Oa 7 (.mov (.cst (.p (.int .u64 0))))]) (.seq (.seq (.region [Oa 8 (.mov (Kz 0))]) (lf124_B0)) (.region [Om 73 5,Om 74 6,Om 75 1,Oa 76 (.len (Tm 75)),Oa 77 (.bin .add (Tm 74) (Tm 76)),Om 78 7,Oa 79 (.iadr 1 (Tm 73) (Tm 77)),Oy 1 79 78])))) (.region [Om 25 6,Oa 26 (.bin .add (Tm 25) (Kz 1)),Om 6 26]))))
def lf124 : LFunc := ⟨82,[.slot 4],.seq (.region [Oa 4 (.mov (.cst (.tight [])))]) (.seq (.region [Om 15 0,Oa 16 (.len (Tm 15)),Om 17 1,Oa 18 (.len (Tm 17)),Oa 19 (.bin .add (Tm 16) (Tm 18)),Oa 20 (.mksl 1 8 147 (.p (.int .u64 0)) (Tm 19) (Tm 19)),Om 5 20]) (.seq (.seq (.region [Oa 6 (.mov (Kz 0))]) (lf124_B1)) (.seq (.region [Om 80 5,Oa 81 (.call 66 [Tm 80]),Om 4 81]) (.ret))))⟩
theorem low124 : zf Tryz.prog gl0 124 = some lf124 := Go.Abs.lowF (by kernel_rfl)
def lf104_B0 : LCode := .block 0 (.loop (.seq (.seq (.region [Om 24 8,Oa 25 (.bin .geq (Tm 24) (Kz 0))]) (.cond (Tm 25) (.skip) (.exit 0))) (.seq (.block 1 (.seq (.region [Om 28 1,Om 29 8,Oa 30 (.call 133 [Tm 28,Tm 29]),Om 9 30]) (.seq (.region [Om 31 7,Om 32 9,Oa 33 (.call 120 [Tm 31,Tm 32]),Oa 34 (.bin .geq (Tm 33) (Kz 0))]) (.cond (Tm 34) (.seq (.region [Om 35 7,Om 36 9,Oa 37 (.call 134 [Tm 35,Tm 36]),Om 7 37]) (.region [Om 38 6,Om 39 8,Oa 40 (.bin .quo (Tm 39) (Kz 64)),Om 41 6,Om 42 8,Oa 43 (.bin .quo (Tm 42) (Kz 64)),Oa 44 (.iadr 1 (Tm 41) (Tm 43)),Oq 45 1 false 44,Om 46 8,Oa 47 (.bin .rem (Tm 46) (Kz 64)),Oa 48 (.conv (.toInt .u64) (Tm 47)),Oa 49 (.bin .shl (.cst (.p (.int .u64 1))) (Tm 48)),Oa 50 (.bin .or (Tm 45) (Tm 49)),Oa 51 (.iadr 1 (Tm 38) (Tm 40)),Oy 1 51 50])) (.skip))))) (.region [Om 26 8,Oa 27 (.bin .sub (Tm 26) (Kz 1)),Om 8 27]))))
def lf104 : LFunc := ⟨55,[.slot 4,.slot 5],.seq (.region [Oa 4 (.mov (.cst (.tight []))),Oa 5 (.mov (.cst (.tight [])))]) (.seq (.seq (.region [Om 10 0,Om 11 1,Oa 12 (.call 120 [Tm 10,Tm 11]),Oa 13 (.bin .lss (Tm 12) (Kz 0))]) (.cond (Tm 13) (.seq (.region [Om 14 0,Oa 4 (.mov (.cst (.tight []))),Om 5 14]) (.ret)) (.skip))) (.seq (.region [Om 15 0,Oa 16 (.len (Tm 15)),Oa 17 (.mksl 1 8 147 (.p (.int .u64 0)) (Tm 16) (Tm 16)),Om 6 17]) (.seq (.region [Om 18 0,Om 7 18]) (.seq (.seq (.region [Om 19 0,Oa 20 (.call 132 [Tm 19]),Om 21 1,Oa 22 (.call 132 [Tm 21]),Oa 23 (.bin .sub (Tm 20) (Tm 22)),Om 8 23]) (lf104_B0)) (.seq (.region [Om 52 6,Oa 53 (.call 66 [Tm 52]),Om 54 7,Om 4 53,Om 5 54]) (.ret))))))⟩
theorem low104 : zf Tryz.prog gl0 104 = some lf104 := Go.Abs.lowF (by kernel_rfl)
def lf103_B0 : LCode := .block 0 (.loop (.seq (.seq (.region [Om 7 1,Oa 8 (.len (Tm 7)),Oa 9 (.bin .gtr (Tm 8) (Kz 0))]) (.cond (Tm 9) (.skip) (.exit 0))) (.block 1 (.seq (.region [Om 11 0,Om 12 1,Oa 13 (.call 104 [Tm 11,Tm 12]),Om 10 13,Ox 14 10 0,Ox 15 10 1,Om 5 14,Om 6 15]) (.region [Om 16 1,Om 17 6,Om 0 16,Om 1 17])))))
def lf103 : LFunc := ⟨19,[.slot 4],.seq (.region [Oa 4 (.mov (.cst (.tight [])))]) (.seq (lf103_B0) (.seq (.region [Om 18 0,Om 4 18]) (.ret)))⟩
theorem low103 : zf Tryz.prog gl0 103 = some lf103 := Go.Abs.lowF (by kernel_rfl)
def lf133_B0 : LCode := .block 0 (.loop (.seq (.seq (.region [Om 31 8,Om 32 6,Oa 33 (.len (Tm 32)),Oa 34 (.bin .lss (Tm 31) (Tm 33)),Om 35 34,Oj 36 35 7,Oc 37 35 (.bin .gtr (Tm 36) (.cst (.p (.int .u64 0)))),Ot 38 35 37]) (.cond (Tm 38) (.skip) (.exit 0))) (.seq (.block 1 (.seq (.region [Om 41 6,Om 42 8,Om 43 6,Om 44 8,Oa 45 (.iadr 1 (Tm 43) (Tm 44)),Oq 46 1 false 45,Om 47 7,Oa 48 (.bin .shr (Tm 46) (Tm 47)),Oa 49 (.iadr 1 (Tm 41) (Tm 42)),Oy 1 49 48]) (.seq (.region [Om 50 8,Oa 51 (.bin .add (Tm 50) (Kz 1)),Om 52 6,Oa 53 (.len (Tm 52)),Oa 54 (.bin .lss (Tm 51) (Tm 53))]) (.cond (Tm 54) (.regionW [(Om 55 6,.f),(Om 56 8,.f),(Om 57 6,.f),(Om 58 8,.f),(Oa 59 (.iadr 1 (Tm 57) (Tm 58)),.f),(Oq 60 1 false 59,.f),(Om 61 6,.f),(Om 62 8,.f),(Oa 63 (.bin .add (Tm 62) (Kz 1)),.f),(Oa 64 (.iadr 1 (Tm 61) (Tm 63)),.f),(Oq 65 1 false 64,.f),(Om 66 7,.f),(Oa 67 (.bin .sub (.cst (.p (.int .u64 64))) (Tm 66)),.f),(Oa 68 (.bin .shl (Tm 65) (Tm 67)),.f),(Oa 69 (.bin .or (Tm 60) (Tm 68)),.f),(Oa 70 (.iadr 1 (Tm 55) (Tm 56)),.f),(Oy 1 70 69,.f)]) (.skip))))) (.region [Om 39 8,Oa 40 (.bin .add (Tm 39) (Kz 1)),Om 8 40]))))
def lf133_B1 : LCode := .block 2 (.loop (.seq (.seq (.region [Om 79 12,Om 80 0,Oa 81 (.len (Tm 80)),Oa 82 (.bin .lss (Tm 79) (Tm 81))]) (.cond (Tm 82) (.skip) (.exit 2))) (.seq (.block 3 (.seq (.region [Om 85 9,Om 86 0,Om 87 12,Oa 88 (.iadr 1 (Tm 86) (Tm 87)),Oq 89 1 false 88,Om 90 10,Oa 91 (.bin .shl (Tm 89) (Tm 90)),Om 92 11,Oa 93 (.bin .or (Tm 91) (Tm 92)),Oa 94 (.buildSl 1 147 (.p (.int .u64 0)) 1 [(0,(Tm 93))]),Oa 95 (.app 1 8 147 (Tm 85) (Tm 94)),Om 9 95]) (.seq (.region [Oa 11 (.mov (.cst (.p (.int .u64 0))))]) (.seq (.region [Om 96 10,Oa 97 (.bin .gtr (Tm 96) (.cst (.p (.int .u64 0))))]) (.cond (Tm 97) (.region [Om 98 0,Om 99 12,Oa 100 (.iadr 1 (Tm 98) (Tm 99)),Oq 101 1 false 100,Om 102 10,Oa 103 (.bin .sub (.cst (.p (.int .u64 64))) (Tm 102)),Oa 104 (.bin .shr (Tm 101) (Tm 103)),Om 11 104]) (.skip)))))) (.region [Om 83 12,Oa 84 (.bin .add (Tm 83) (Kz 1)),Om 12 84]))))
def lf133 : LFunc := ⟨110,[.slot 4],.seq (.region [Oa 4 (.mov (.cst (.tight [])))]) (.seq (.seq (.region [Om 13 1,Oa 14 (.bin .lss (Tm 13) (Kz 0))]) (.cond (Tm 14) (.seq (.region [Om 15 1,Oa 16 (.un .neg (Tm 15)),Oa 17 (.bin .quo (Tm 16) (Kz 64)),Om 5 17]) (.seq (.seq (.region [Om 18 5,Om 19 0,Oa 20 (.len (Tm 19)),Oa 21 (.bin .geq (Tm 18) (Tm 20))]) (.cond (Tm 21) (.seq (.region [Oa 4 (.mov (.cst (.tight [])))]) (.ret)) (.skip))) (.seq (.region [Oa 22 (.buildSl 1 147 (.p (.int .u64 0)) 0 []),Om 23 0,Om 24 5,Oa 25 (.slSl 1 (Tm 23) (some (Tm 24)) none none),Oa 26 (.app 1 8 147 (Tm 22) (Tm 25)),Om 6 26]) (.seq (.region [Om 27 1,Oa 28 (.un .neg (Tm 27)),Oa 29 (.bin .rem (Tm 28) (Kz 64)),Oa 30 (.conv (.toInt .u64) (Tm 29)),Om 7 30]) (.seq (.seq (.region [Oa 8 (.mov (Kz 0))]) (lf133_B0)) (.seq (.region [Om 71 6,Oa 72 (.call 66 [Tm 71]),Om 4 72]) (.ret))))))) (.skip))) (.seq (.region [Om 73 1,Oa 74 (.bin .quo (Tm 73) (Kz 64)),Oa 75 (.mksl 1 8 147 (.p (.int .u64 0)) (Tm 74) (Tm 74)),Om 9 75]) (.seq (.region [Om 76 1,Oa 77 (.bin .rem (Tm 76) (Kz 64)),Oa 78 (.conv (.toInt .u64) (Tm 77)),Om 10 78]) (.seq (.region [Oa 11 (.mov (.cst (.p (.int .u64 0))))]) (.seq (.seq (.region [Oa 12 (.mov (Kz 0))]) (lf133_B1)) (.seq (.region [Om 105 9,Om 106 11,Oa 107 (.buildSl 1 147 (.p (.int .u64 0)) 1 [(0,(Tm 106))]),Oa 108 (.app 1 8 147 (Tm 105) (Tm 107)),Oa 109 (.call 66 [Tm 108]),Om 4 109]) (.ret)))))))⟩
theorem low133 : zf Tryz.prog gl0 133 = some lf133 := Go.Abs.lowF (by kernel_rfl)
end Go.Proofs.YtgbjjikaenlkmaaGreat

namespace Go.Proofs.YtgbjjikaenlkmaaGreat
open Go Go.Abs Go.Limbs
variable {base : Prot}
set_option maxRecDepth 20000
attribute [local irreducible] vc
attribute [local simp] za zi freezeL fuel zk u64 au
theorem au_comp : AVal.p ∘ u64 = au := rfl
theorem iR (ys : List Nat) : (ys.map au).all (fun y => y.cells.length == 1 && y.cells.all AVal.isCell) = true := by
 rw [List.all_eq_true]
 intro x hx
 obtain ⟨y, _, rfl⟩ := List.mem_map.1 hx
 rfl
theorem oN {H : zb} {k ver : Nat} {out ys : List Nat} (hk : H[k]? = some (zH ver out)) (hn : out.length + ys.length ≤ 1000000) :
  qC 1 8 147 (.own k 0 out.length ver) (ys.map au) H = some (.own k 0 (out.length + ys.length) (ver + 1), H.set k (zH (ver + 1) (out ++ ys))) := by
 have hm : maxLen = 9223372036854775807 := rfl
 unfold qC
 rw [if_pos ⟨iR ys, by decide⟩]
 simp only
 rw [hk]
 simp only [zH]
 rw [if_pos (by simp; omega)]
 simp
theorem app_nil {H : zb} {ys : List Nat} (hn : ys.length ≤ 1000000) :
  qC 1 8 147 (.tight []) (ys.map au) H = some (.own H.length 0 ys.length 0, H ++ [zH 0 ys]) := by
 have hm : maxLen = 9223372036854775807 := rfl
 unfold qC
 rw [if_pos ⟨iR ys, by decide⟩]
 simp only
 rw [if_pos (by simp; omega)]
 simp [zH]
theorem ux : zG Tryz.prog base 66 (za qF) := by
 refine zd zB Tab.none_ok ze low66 fun args z hs hf => ?_
 unfold qF at hs
 split at hs
 case h_2 => cases hs
 rename_i es
 split at hs
 case h_2 => cases hs
 rename_i l hd
 split at hs
 case isFalse => cases hs
 rename_i hl
 obtain ⟨rfl, hw⟩ := zI hd
 cases hs
 refine ⟨by simp [lf66], ?_⟩
 simp [lf66]
 simp only [lf66_B0, zr]
 refine zo (fun fr H => ∃ n : Nat, H = [] ∧ n ≤ l.length ∧ val (l.take n) = val l ∧ fr 0 = .p (.lst (l.map u64)) ∧ fr 3 = .p (.int .i64 n)) (fun fr _ => zD (fr 3)) ⟨l.length, rfl, by omega, by simp, by simp, by simp⟩ ?_
 rintro fr H ⟨n, rfl, hn, hv, h0, h3⟩
 have hcap := wI n (by omega)
 have hnI : (n : Int) ≤ l.length := by omega
 by_cases h : 0 < n
 ·have hI : (0 : Int) < n := by omega
  obtain ⟨x, hx⟩ : ∃ x, l[n - 1]? = some x := ⟨_, List.getElem?_eq_getElem (by omega)⟩
  obtain ⟨n1, hn1⟩ : ∃ t, t = n - 1 := ⟨_, rfl⟩
  rw [← hn1] at hx
  have hw1 : IntKind.i64.wrap ((n : Int) - 1) = (n1 : Int) := by rw [IntWalk.i64_in _ (by omega)]; omega
  have hlt : n1 < l.length := by omega
  by_cases hz : x = 0
  ·subst hz
   simp [h0, h3, h, hw1, hx, zD]
   refine ⟨⟨n1, by omega, ?_, rfl⟩, by omega⟩
   have := t6 (a := l) (n := n1) hx
   rw [show n1 + 1 = n by omega] at this
   rw [← this, hv]
  ·have hb : ((x : Int) == 0) = false := beq_false_of_ne (by omega)
   have hres : wD (val l) = .lst ((l.take n).map u64) := by
    rw [t7 (a := l) (n := n) hw hv (.inr ⟨x, by rw [← hn1]; exact hx, hz⟩)]; rfl
   have hln : (l.take n).length = n := by rw [List.length_take]; omega
   have happ := oN (H := [zH 0 []]) (k := 0) (ver := 0) (out := []) (ys := l.take n) rfl (by simp; omega)
   rw [hln] at happ
   simp only [List.map_take, List.length_nil, Nat.zero_add, List.nil_append, List.set_cons_zero] at happ
   simp [zH, -qC] at happ
   simp [h0, h3, h, hw1, hx, hb, hres, hnI, zN, au_comp, happ, -qC]
   refine ⟨by rw [Nat.min_eq_left hn]; exact Nat.le_refl _, ?_⟩
   rw [List.take_take, Nat.min_self, zO]
 ·have hn0 : n = 0 := by omega
  subst hn0
  have hz : val l = 0 := by rw [← hv]; rfl
  simp [h0, h3, hz, wD, jb, zy, zN]
theorem xp : zG Tryz.prog base 102 (za jl) := by
 refine zd zB Tab.none_ok ze low102 fun args z hs hf => ?_
 unfold jl at hs
 split at hs
 case h_2 => cases hs
 rename_i es
 split at hs
 case h_2 => cases hs
 rename_i l hd
 obtain ⟨rfl, hw⟩ := zI hd
 cases hs
 refine ⟨by simp [lf102], ?_⟩
 have hc := te hw
 by_cases h1 : (l.length : Int) ≤ 64
 ·have h1' : l.length ≤ 64 := by omega
  by_cases h0 : l.length = 0
  ·have : l = [] := List.length_eq_zero_iff.1 h0
   subst this
   simp [lf102, qg, zy]
  ·have hw1 := mF (i := l.length) (by omega) (by omega)
   obtain ⟨x, hx⟩ : ∃ x, l[l.length - 1]? = some x := ⟨_, List.getElem?_eq_getElem (by omega)⟩
   have hb2 : ((l.length : Int) == 0) = false := beq_false_of_ne (by omega)
   have hlast : l.getLast? = some x := by rw [List.getLast?_eq_getElem?]; exact hx
   rw [hlast] at hc
   by_cases hz : x = 0
   ·subst hz
    have hne : ¬ zc (val l) = l := fun e => hc.1 e rfl
    have hb : ((0 : Int) != 0) = false := rfl
    simp [lf102, h1, h1', hw1, hx, hb2, hne]
   ·have hb : ((x : Int) != 0) = true := by simp; omega
    have heq : zc (val l) = l := hc.2 (fun e => hz (by simpa using e))
    simp [lf102, h1, h1', hw1, hx, hb, hb2, heq]
 ·have h1' : ¬ l.length ≤ 64 := by omega
  simp [lf102, h1, h1']
theorem fM : zG Tryz.prog base 120 (za qX) := by
 refine zd zB Tab.none_ok ze low120 fun args z hs hf => ?_
 unfold qX at hs
 split at hs
 case h_2 => cases hs
 rename_i xs ys
 split at hs
 case h_2 => cases hs
 rename_i a b ha hb
 cases hs
 obtain ⟨rfl, hla⟩ := zE ha
 obtain ⟨rfl, hlb⟩ := zE hb
 refine ⟨by simp [lf120], ?_⟩
 have wa := zC a
 have wb := zC b
 have va := zw a
 have vb := zw b
 have la : len a = (zc a).length := rfl
 have lb : len b = (zc b).length := rfl
 by_cases h : (zc a).length = (zc b).length
 ·have hbn : (((zc a).length : Int) != ((zc b).length : Int)) = false := by simp [h]
  simp [lf120, hbn]
  simp only [lf120_B0, zr]
  refine zo (fun fr H => ∃ n : Nat, n ≤ (zc a).length ∧ (zc a).drop n = (zc b).drop n ∧ fr 0 = .p (.lst ((zc a).map u64)) ∧ fr 1 = .p (.lst ((zc b).map u64)) ∧ fr 5 = .p (.int .i64 ((n : Int) - 1)))
   (fun fr _ => s9 (fr 5)) ⟨(zc a).length, by omega, by rw [List.drop_length, h, List.drop_length], by simp, by simp, ?_⟩ ?_
  ·simp [IntWalk.i64_in ((zc a).length - 1) (by omega)]
  rintro fr H ⟨n, hn, hd, h0, h1, h5⟩
  by_cases hn0 : 0 < n
  ·obtain ⟨m, rfl⟩ : ∃ m, n = m + 1 := ⟨n - 1, by omega⟩
   have e5 : (((m + 1 : Nat) : Int) - 1) = (m : Int) := by omega
   rw [e5] at h5
   obtain ⟨x, hx⟩ : ∃ x, (zc a)[m]? = some x := ⟨_, List.getElem?_eq_getElem (by omega)⟩
   obtain ⟨y, hy⟩ : ∃ y, (zc b)[m]? = some y := ⟨_, List.getElem?_eq_getElem (by omega)⟩
   have hmb : m < (zc b).length := by omega
   have hma : m < (zc a).length := by omega
   by_cases hxy : x = y
   ·subst hxy
    have hw : IntKind.i64.wrap ((m : Int) - 1) = (m : Int) - 1 := IntWalk.i64_in _ (by omega)
    simp [h0, h1, h5, zZ hx, zZ hy, hma, hmb, hw, s9]
    exact ⟨m, by omega, by rw [je hx, je hy, hd], rfl⟩
   ·have hc : qm a b = qm x y := by
     have := td wa wb hd hx hy hxy
     rwa [va, vb] at this
    by_cases hlt : x < y
    ·have hc2 : qm x y = -1 := jY hlt
     have hltI : (x : Int) < y := by omega
     simp [h0, h1, h5, zZ hx, zZ hy, hma, hmb, hlt, hc, hc2]
    ·have hgt : y < x := by omega
     have hc2 : qm x y = 1 := cQ hgt
     simp [h0, h1, h5, zZ hx, zZ hy, hma, hmb, hlt, hgt, hc, hc2]
  ·have : n = 0 := by omega
   subst this
   have e : a = b := by
    rw [List.drop_zero, List.drop_zero] at hd
    rw [← va, ← vb, hd]
   subst e
   simp [h5, cmpI_eq]
 ·have hbn : (((zc a).length : Int) != ((zc b).length : Int)) = true := by simp; omega
  by_cases h1 : (zc a).length < (zc b).length
  ·have hc : qm a b = -1 := jY (cM h1)
   simp [lf120, hbn, h1, hc]
  ·have h2 : (zc b).length < (zc a).length := by omega
   have hc : qm a b = 1 := cQ (cM h2)
   simp [lf120, hbn, h1, hc]
def Tb64 : Tab := Tab.none.with 100 (za uu)
theorem Tb64_ok : TabOk Tryz.prog base Tb64 := Tab.with_ok Tab.none_ok gU
theorem Tb64_mu (f : FuncId) (a : List AVal) (H : zb) : Tb64.mu f a H = none := (rfl)
theorem Tb64_len : Tb64.fn 100 = za uu := (rfl)
theorem rbits_ok : zG Tryz.prog base 132 (za xd) := by
 refine zd zB Tb64_ok ze low132 fun args z hs hf => ?_
 unfold xd at hs
 split at hs
 case h_2 => cases hs
 rename_i xs
 split at hs
 case h_2 => cases hs
 rename_i a ha
 cases hs
 obtain ⟨rfl, hla⟩ := zE ha
 refine ⟨by simp [lf132], ?_⟩
 have la : (zc a).length = len a := rfl
 by_cases h : a = 0
 ·subst h
  simp [lf132, zy, t8]
 ·have hl : len a ≠ 0 := fun e => h (qd.1 e)
  have hb : ((len a : Int) == 0) = false := beq_false_of_ne (by omega)
  obtain ⟨n1, hn1⟩ : ∃ t, t = len a - 1 := ⟨_, rfl⟩
  obtain ⟨x, hx⟩ : ∃ x, (zc a)[len a - 1]? = some x := ⟨_, List.getElem?_eq_getElem (by omega)⟩
  have hxB := (zC a).get hx
  have hsz := size_top h hx
  rw [← hn1] at hx hsz
  have h64 := fu hxB
  have w1 : IntKind.i64.wrap ((len a : Int) - 1) = (n1 : Int) := by rw [IntWalk.i64_in _ (by omega)]; omega
  obtain ⟨p, hp⟩ : ∃ t, t = 64 * n1 := ⟨_, rfl⟩
  have w2 : IntKind.i64.wrap (64 * (n1 : Int)) = (p : Int) := by rw [IntWalk.i64_in _ (by omega)]; omega
  have w3 : IntKind.i64.wrap ((p : Int) + size x) = (size a : Int) := by rw [IntWalk.i64_in _ (by omega)]; omega
  have hL := rY hxB
  simp [lf132, la, hb, w1, w2, w3, hL, hx, Tb64_mu, Tb64_len]
def IsRow (H : zb) (x : AVal) (l : List Nat) : Prop := (l = [] ∧ x = .tight []) ∨ ∃ j ver, x = .own j 0 l.length ver ∧ H[j]? = some (zH ver l)
theorem mj {H : zb} {x : AVal} {l : List Nat} (h : IsRow H x l) (y : Nat) (hn : l.length + 1 ≤ 1000000) (g : Ent) :
  ∃ j ver H', qC 1 8 147 x [.p (.int .u64 y)] (H ++ [g]) = some (.own j 0 (l.length + 1) ver, H') ∧ H'[j]? = some (zH ver (l ++ [y])) := by
 rcases h with ⟨rfl, rfl⟩ | ⟨j, ver, rfl, hj⟩
 ·refine ⟨_, _, _, app_nil (H := H ++ [g]) (ys := [y]) (by simp), ?_⟩
  rw [List.getElem?_append_right (Nat.le_refl _), Nat.sub_self]; rfl
 ·have hjl := (List.getElem?_eq_some_iff.1 hj).1
  have hj' : (H ++ [g])[j]? = some (zH ver l) := by rw [List.getElem?_append_left hjl]; exact hj
  exact ⟨_, _, _, oN (ys := [y]) hj' (by simpa using hn), by rw [List.getElem?_set_self (by simp; omega)]⟩
theorem IsRow.own {H : zb} {j ver : Nat} {l : List Nat} (h : H[j]? = some (zH ver l)) : IsRow H (.own j 0 l.length ver) l := .inr ⟨j, ver, rfl, h⟩
theorem oc {a : List Nat} (ha : Wf a) (i : Nat) : ∃ x, x < B ∧ val (a.take (i + 1)) = val (a.take i) + B ^ i * x ∧ ((i < a.length ∧ a[i]? = some x) ∨ (¬ i < a.length ∧ x = 0)) := by
 by_cases h : i < a.length
 ·obtain ⟨x, hx⟩ : ∃ x, a[i]? = some x := ⟨_, List.getElem?_eq_getElem h⟩
  exact ⟨x, ha.get hx, zA hx, .inl ⟨h, hx⟩⟩
 ·have hn : a[i]? = none := List.getElem?_eq_none (by omega)
  exact ⟨0, qf, by rw [mG hn]; simp, .inr ⟨h, rfl⟩⟩
def Trs : Tab := ((Tab.none.with 66 (za qF)).ext 144 vY).ext 148 uq
theorem Trs_ok : TabOk Tryz.prog base Trs := Tab.ext_ok (Tab.ext_ok (Tab.with_ok Tab.none_ok ux) mr) eF
theorem tv (f : FuncId) (a : List AVal) (H : zb) : Trs.mu f a H = none := (rfl)
theorem cr : Trs.fn 66 = za qF := (rfl)
theorem oS : Trs.ex 144 = vY := (rfl)
theorem Trs_sub : Trs.ex 148 = uq := (rfl)
theorem radd_ok : zG Tryz.prog base 158 (za bH) := by
 refine zd zB Trs_ok ze low158 fun args z hs hf => ?_
 unfold bH at hs
 split at hs
 case h_2 => cases hs
 rename_i xs ys
 split at hs
 case h_2 => cases hs
 rename_i a b ha hb
 cases hs
 obtain ⟨rfl, hla⟩ := zE ha
 obtain ⟨rfl, hlb⟩ := zE hb
 refine ⟨by simp [lf158], ?_⟩
 have wa := zC a
 have wb := zC b
 have va := zw a
 have vb := zw b
 have la : (zc a).length = len a := rfl
 have lb : (zc b).length = len b := rfl
 simp [lf158]
 simp only [lf158_B0, zr]
 refine zo (fun fr H => ∃ (i : Nat) (l : List Nat) (c : Nat) (x : AVal), i ≤ max (len a) (len b) ∧ l.length = i ∧ Wf l ∧ c ≤ 1 ∧ val l + B ^ i * c = val ((zc a).take i) + val ((zc b).take i) ∧ IsRow H x l ∧
   fr 0 = .p (.lst ((zc a).map u64)) ∧ fr 1 = .p (.lst ((zc b).map u64)) ∧ fr 5 = x ∧ fr 6 = .p (.int .u64 c) ∧ fr 7 = .p (.int .i64 i))
  (fun fr _ => max (len a) (len b) - zD (fr 7)) ⟨0, [], 0, .tight [], by omega, rfl, Wf.nil, by omega, by simp [qg], .inl ⟨rfl, rfl⟩, by simp, by simp, by simp, by simp, by simp⟩ ?_
 rintro fr H ⟨i, l, c, x, hi, hl, hwl, hc, hv, hR, f0, f1, f5, f6, f7⟩
 by_cases hlt : i < len a ∨ i < len b
 ·obtain ⟨p, hpB, hpv, hp⟩ := oc wa i
  obtain ⟨q, hqB, hqv, hq⟩ := oc wb i
  rw [la] at hp
  rw [lb] at hq
  have hst := mo (p := val l) (u := val ((zc a).take i)) (v := val ((zc b).take i)) (P := B ^ i) (x := p) (y := q) (c := c) hv
  have hsa := uv (x := p) (y := q) hc
  have hD := mq p q c
  have hC := cR hpB hqB hc
  obtain ⟨D, hDD⟩ : ∃ t, t = wo p q c := ⟨_, rfl⟩
  obtain ⟨C, hCC⟩ : ∃ t, t = jx p q c := ⟨_, rfl⟩
  rw [← hDD, ← hCC] at hsa hst
  rw [← hDD] at hD
  rw [← hCC] at hC
  obtain ⟨j, ver, H', happ, hj⟩ := mj hR D (by omega) ⟨1, 0, false, [.p (.int .u64 D)], 147⟩
  have hnew : val (l ++ [D]) + B ^ (i + 1) * C = val ((zc a).take (i + 1)) + val ((zc b).take (i + 1)) := by
   rw [uh, hl, hpv, hqv, Nat.pow_succ, ← hst]
  have hwn : Wf (l ++ [D]) := hwl.append (Wf.cons hD Wf.nil)
  have hw := zs (i := i) (by omega)
  have hRn : IsRow H' (.own j 0 (l.length + 1) ver) (l ++ [D]) := by
   have := IsRow.own hj
   simpa using this
  rcases hp with ⟨hp1, hp2⟩ | ⟨hp1, rfl⟩
  ·rcases hq with ⟨hq1, hq2⟩ | ⟨hq1, rfl⟩
   ·simp [f0, f1, f5, f6, f7, la, lb, hp1, hq1, zZ hp2, zZ hq2, hsa, happ, hw, zN, oS, zD, -qC]
    exact ⟨⟨i + 1, by omega, l ++ [D], by simp [hl], hwn, C, hC, hnew, _, hRn, rfl, rfl, by omega⟩, by omega⟩
   ·simp only [Int.natCast_zero] at hsa
    simp [f0, f1, f5, f6, f7, la, lb, hp1, hq1, zZ hp2, hsa, happ, hw, zN, oS, zD, -qC]
    exact ⟨⟨i + 1, by omega, l ++ [D], by simp [hl], hwn, C, hC, hnew, _, hRn, rfl, rfl, by omega⟩, by omega⟩
  ·rcases hq with ⟨hq1, hq2⟩ | ⟨hq1, rfl⟩
   ·simp only [Int.natCast_zero] at hsa
    simp [f0, f1, f5, f6, f7, la, lb, hp1, hq1, zZ hq2, hsa, happ, hw, zN, oS, zD, -qC]
    exact ⟨⟨i + 1, by omega, l ++ [D], by simp [hl], hwn, C, hC, hnew, _, hRn, rfl, rfl, by omega⟩, by omega⟩
   ·omega
 ·have h1 : ¬ i < len a := by omega
  have h2 : ¬ i < len b := by omega
  have hva : val ((zc a).take i) = a := by rw [List.take_of_length_le (by omega)]; exact va
  have hvb : val ((zc b).take i) = b := by rw [List.take_of_length_le (by omega)]; exact vb
  rw [hva, hvb] at hv
  subst f5
  by_cases hc0 : c = 0
  ·subst hc0
   have hvl : val l = a + b := by simpa using hv
   have ht := vg hwl (by omega)
   rw [hvl] at ht
   rcases hR with ⟨hl0, hx⟩ | ⟨j, ver, hx, hj⟩
   ·rw [hl0] at ht
    simp only [List.map_nil] at ht
    simp [f0, f1, hx, f6, f7, la, lb, h1, h2, ht, tv, cr, wD, jb]
   ·unfold zH at hj
    have htk : List.take l.length (l.map u64) = l.map u64 := List.take_of_length_le (by simp)
    simp [f0, f1, hx, hj, f6, f7, la, lb, h1, h2, ht, htk, zO, zQ, tv, cr, wD, jb]
  ·have hc1 : c = 1 := by omega
   subst hc1
   have hwn : Wf (l ++ [1]) := hwl.append (Wf.cons (by decide) Wf.nil)
   have hvl : val (l ++ [1]) = a + b := by rw [uh, hl]; exact hv
   have ht := vg hwn (by simp; omega)
   rw [hvl] at ht
   obtain ⟨j, ver, H', happ, hj⟩ := mj hR 1 (by omega) ⟨1, 0, false, [.p (.int .u64 1)], 147⟩
   obtain ⟨L, hL⟩ : ∃ t, t = l ++ [1] := ⟨_, rfl⟩
   have hLl : l.length + 1 = L.length := by rw [hL]; simp
   rw [← hL] at ht hj
   rw [hLl] at happ
   have htk : List.take L.length (L.map u64) = L.map u64 := List.take_of_length_le (by simp)
   unfold zH at hj
   simp only [Int.natCast_one] at happ
   simp [f0, f1, f6, f7, la, lb, h1, h2, happ, zN, -qC]
   simp [hj, ht, htk, zO, zQ, tv, cr, wD, jb]
theorem rsub_ok : zG Tryz.prog base 134 (za kn) := by
 refine zd zB Trs_ok ze low134 fun args z hs hf => ?_
 unfold kn at hs
 split at hs
 case h_2 => cases hs
 rename_i xs ys
 split at hs
 case h_2 => cases hs
 rename_i a b ha hb
 split at hs
 case isFalse => cases hs
 rename_i hba
 cases hs
 obtain ⟨rfl, hla⟩ := zE ha
 obtain ⟨rfl, hlb⟩ := zE hb
 refine ⟨by simp [lf134], ?_⟩
 have wa := zC a
 have wb := zC b
 have va := zw a
 have vb := zw b
 have la : (zc a).length = len a := rfl
 have lb : (zc b).length = len b := rfl
 have hlen := qq hba
 simp [lf134]
 simp only [lf134_B0, zr]
 refine zo (fun fr H => ∃ (i : Nat) (l : List Nat) (c : Nat) (x : AVal), i ≤ len a ∧ l.length = i ∧ Wf l ∧ c ≤ 1 ∧ val l + val ((zc b).take i) = val ((zc a).take i) + B ^ i * c ∧ IsRow H x l ∧
   fr 0 = .p (.lst ((zc a).map u64)) ∧ fr 1 = .p (.lst ((zc b).map u64)) ∧ fr 5 = x ∧ fr 6 = .p (.int .u64 c) ∧ fr 7 = .p (.int .i64 i))
  (fun fr _ => len a - zD (fr 7)) ⟨0, [], 0, .tight [], by omega, rfl, Wf.nil, by omega, by simp [qg], .inl ⟨rfl, rfl⟩, by simp, by simp, by simp, by simp, by simp⟩ ?_
 rintro fr H ⟨i, l, c, x, hi, hl, hwl, hc, hv, hR, f0, f1, f5, f6, f7⟩
 by_cases hp1 : i < len a
 ·obtain ⟨p, hp2⟩ : ∃ p, (zc a)[i]? = some p := ⟨_, List.getElem?_eq_getElem (by omega)⟩
  have hpB := wa.get hp2
  have hpv := zA hp2
  obtain ⟨q, hqB, hqv, hq⟩ := oc wb i
  rw [lb] at hq
  have hst := rC (p := val l) (u := val ((zc a).take i)) (v := val ((zc b).take i)) (P := B ^ i) hpB hqB hc hv
  have hsa := uo (x := p) (y := q) hc
  have hD := cy p q c
  have hC := gh p q c
  obtain ⟨D, hDD⟩ : ∃ t, t = uJ p q c := ⟨_, rfl⟩
  obtain ⟨C, hCC⟩ : ∃ t, t = bz p q c := ⟨_, rfl⟩
  rw [← hDD, ← hCC] at hsa hst
  rw [← hDD] at hD
  rw [← hCC] at hC
  obtain ⟨j, ver, H', happ, hj⟩ := mj hR D (by omega) ⟨1, 0, false, [.p (.int .u64 D)], 147⟩
  have hnew : val (l ++ [D]) + val ((zc b).take (i + 1)) = val ((zc a).take (i + 1)) + B ^ (i + 1) * C := by
   rw [uh, hl, hpv, hqv, Nat.pow_succ, ← hst]
  have hwn : Wf (l ++ [D]) := hwl.append (Wf.cons hD Wf.nil)
  have hw := zs (i := i) (by omega)
  have hRn : IsRow H' (.own j 0 (l.length + 1) ver) (l ++ [D]) := by
   have := IsRow.own hj
   simpa using this
  rcases hq with ⟨hq1, hq2⟩ | ⟨hq1, rfl⟩
  ·simp [f0, f1, f5, f6, f7, la, lb, hp1, hq1, zZ hp2, zZ hq2, hsa, happ, hw, zN, Trs_sub, zD, -qC]
   exact ⟨⟨i + 1, by omega, l ++ [D], by simp [hl], hwn, C, hC, hnew, _, hRn, rfl, rfl, by omega⟩, by omega⟩
  ·simp only [Int.natCast_zero] at hsa
   simp [f0, f1, f5, f6, f7, la, lb, hp1, hq1, zZ hp2, hsa, happ, hw, zN, Trs_sub, zD, -qC]
   exact ⟨⟨i + 1, by omega, l ++ [D], by simp [hl], hwn, C, hC, hnew, _, hRn, rfl, rfl, by omega⟩, by omega⟩
 ·have hva : val ((zc a).take i) = a := by rw [List.take_of_length_le (by omega)]; exact va
  have hvb : val ((zc b).take i) = b := by rw [List.take_of_length_le (by omega)]; exact vb
  rw [hva, hvb] at hv
  subst f5
  have hvl := ui hwl
  rw [hl] at hvl
  have hc0 : c = 0 := by
   rcases Nat.eq_zero_or_pos c with h | h
   ·exact h
   ·have : c = 1 := by omega
    subst this
    omega
  subst hc0
  have hvl : val l = a - b := by omega
  have ht := vg hwl (by omega)
  rw [hvl] at ht
  rcases hR with ⟨hl0, hx⟩ | ⟨j, ver, hx, hj⟩
  ·rw [hl0] at ht
   simp only [List.map_nil] at ht
   simp [f0, hx, f7, la, hp1, ht, tv, cr, wD, jb]
  ·unfold zH at hj
   have htk : List.take l.length (l.map u64) = l.map u64 := List.take_of_length_le (by simp)
   simp [f0, hx, hj, f7, la, hp1, ht, htk, zO, zQ, tv, cr, wD, jb]
theorem pI : ∀ {l : List Nat} {m o : Nat} (t : Nat), l[m]? = some o → val (l.set m t) + B ^ m * o = val l + B ^ m * t
 | [], m, o, t, h => by simp at h
 | x :: r, 0, o, t, h => by
  simp only [List.getElem?_cons_zero, Option.some.injEq] at h
  subst h
  simp only [List.set_cons_zero, q9, Nat.pow_zero, Nat.one_mul]
  omega
 | x :: r, m + 1, o, t, h => by
  simp only [List.getElem?_cons_succ] at h
  have ih := pI t h
  simp only [List.set_cons_succ, q9, Nat.pow_succ]
  generalize val (r.set m t) = u at *
  generalize val r = v at *
  generalize B ^ m = p at *
  grind
theorem mac_set {V V' p o t c c' w x y : Nat} (hset : V' + p * o = V + p * t) (he : t + B * c' = x * y + c + o) (h : V + p * c = w) : V' + p * B * c' = w + p * (x * y) := by
 have e1 : p * (t + B * c') = p * (x * y + c + o) := by rw [he]
 rw [Nat.mul_add, Nat.mul_add, Nat.mul_add, ← Nat.mul_assoc] at e1
 omega
def Trm : Tab := ((Tab.none.with 66 (za qF)).with 143 (za yO)).ext 144 vY
theorem Trm_ok : TabOk Tryz.prog base Trm := Tab.ext_ok (Tab.with_ok (Tab.with_ok Tab.none_ok ux) sE) mr
theorem Trm_mu (f : FuncId) (a : List AVal) (H : zb) : Trm.mu f a H = none := (rfl)
theorem Trm_trim : Trm.fn 66 = za qF := (rfl)
theorem Trm_mul : Trm.fn 143 = za yO := (rfl)
theorem Trm_add : Trm.ex 144 = vY := (rfl)
theorem rmul_row {a b l0 : List Nat} {i x N : Nat} {R : LExit → AFr → zb → Prop} {fr : AFr} {H : zb} (wa : Wf a) (wb : Wf b) (hN : N = a.length + b.length) (hN2 : N ≤ 200000) (hx : a[i]? = some x) (hl0 : l0.length = N) (hw0 : Wf l0) (hH : H = [zH 0 l0])
  (f0 : fr 0 = .p (.lst (a.map u64))) (f1 : fr 1 = .p (.lst (b.map u64))) (f5 : fr 5 = .own 0 0 N 0) (f6 : fr 6 = .p (.int .i64 i)) (f7 : fr 7 = .p (.int .u64 0)) (f8 : fr 8 = .p (.int .i64 0))
  (hR : ∀ (fr' : AFr) (l : List Nat) (c : Nat), l.length = N → Wf l → c < B → val l + B ^ (i + b.length) * c = val l0 + B ^ i * x * val b → (∀ m, i + b.length ≤ m → l[m]? = l0[m]?) →
   fr' 0 = .p (.lst (a.map u64)) → fr' 1 = .p (.lst (b.map u64)) → fr' 5 = .own 0 0 N 0 → fr' 6 = .p (.int .i64 i) → fr' 7 = .p (.int .u64 c) → R .normal fr' [zH 0 l]) : vc Trm lf124_B0 R fr H := by
 have hia : i < a.length := (List.getElem?_eq_some_iff.1 hx).1
 have hxB := wa.get hx
 simp only [lf124_B0, zr]
 refine zo (fun fr H => ∃ (k : Nat) (l : List Nat) (c : Nat), k ≤ b.length ∧ l.length = N ∧ Wf l ∧ c < B ∧ val l + B ^ (i + k) * c = val l0 + B ^ i * x * val (b.take k) ∧ (∀ m, i + k ≤ m → l[m]? = l0[m]?) ∧ H = [zH 0 l] ∧
   fr 0 = .p (.lst (a.map u64)) ∧ fr 1 = .p (.lst (b.map u64)) ∧ fr 5 = .own 0 0 N 0 ∧ fr 6 = .p (.int .i64 i) ∧ fr 7 = .p (.int .u64 c) ∧ fr 8 = .p (.int .i64 k))
  (fun fr _ => b.length - zD (fr 8)) ⟨0, l0, 0, by omega, hl0, hw0, qf, by simp [qg], fun m _ => rfl, hH, f0, f1, f5, f6, by rw [f7]; rfl, by rw [f8]; rfl⟩ ?_
 rintro fr H ⟨k, l, c, hk, hl, hwl, hcB, hv, hsame, rfl, f0, f1, f5, f6, f7, f8⟩
 by_cases hlt : k < b.length
 ·obtain ⟨y, hy⟩ : ∃ y, b[k]? = some y := ⟨_, List.getElem?_eq_getElem hlt⟩
  have hyB := wb.get hy
  obtain ⟨m, hm⟩ : ∃ t, t = i + k := ⟨_, rfl⟩
  have hmN : m < N := by omega
  obtain ⟨o, ho⟩ : ∃ o, l[m]? = some o := ⟨_, List.getElem?_eq_getElem (by omega)⟩
  have hoB := hwl.get ho
  have hM := yM hxB hyB
  simp only [cY, jU] at hM
  have hlow : x * y % B < B := Nat.mod_lt _ qf
  have hA1 := jA (x := o) (y := x * y % B)
  have hA2 := jA (x := wo o (x * y % B) 0) (y := c)
  have hlo := mac_low' (x := x) (k := y) (c := c) (o := o)
  have hhi := mac_high' (x := x) (k := y) (c := c) (o := o)
  have hdl := uD hxB hyB hcB hoB
  have e1 : wo o (x * y % B) 0 = (o + x * y % B) % B := by unfold wo; rw [Nat.add_zero]
  have e2 : jx o (x * y % B) 0 = (o + x * y % B) / B := by unfold jx; rw [Nat.add_zero]
  have e3 : wo (wo o (x * y % B) 0) c 0 = (x * y + c + o) % B := by rw [e1, ← hlo]; unfold wo; rw [Nat.add_zero]
  have e4 : jx (wo o (x * y % B) 0) c 0 = ((o + x * y % B) % B + c) / B := by rw [e1]; unfold jx; rw [Nat.add_zero]
  rw [e3, e4, e1] at hA2
  rw [e1, e2] at hA1
  obtain ⟨hi, hhi'⟩ : ∃ t, t = x * y / B := ⟨_, rfl⟩
  obtain ⟨lo, hlo'⟩ : ∃ t, t = x * y % B := ⟨_, rfl⟩
  rw [← hhi', ← hlo'] at hhi
  rw [← hhi', ← hlo'] at hM
  rw [← hlo'] at hA1 hA2
  obtain ⟨s1, hs1⟩ : ∃ t, t = (o + lo) % B := ⟨_, rfl⟩
  obtain ⟨d1, hd1⟩ : ∃ t, t = (o + lo) / B := ⟨_, rfl⟩
  rw [← hs1, ← hd1] at hhi hA1
  rw [← hs1] at hA2
  obtain ⟨d2, hd2⟩ : ∃ t, t = (s1 + c) / B := ⟨_, rfl⟩
  rw [← hd2] at hhi hA2
  obtain ⟨t, ht⟩ : ∃ t, t = (x * y + c + o) % B := ⟨_, rfl⟩
  obtain ⟨c', hc'⟩ : ∃ t, t = (x * y + c + o) / B := ⟨_, rfl⟩
  rw [← ht] at hA2
  rw [← hc'] at hhi hdl
  have htB : t < B := by rw [ht]; exact Nat.mod_lt _ qf
  have hset := pI t ho
  have he : t + B * c' = x * y + c + o := by rw [ht, hc']; exact Nat.mod_add_div _ _
  have hw1 : IntKind.i64.wrap ((i : Int) + k) = (m : Int) := by rw [← Int.natCast_add, ← hm]; exact yD (by omega)
  have hw2 : IntKind.u64.wrap ((hi : Int) + d1) = ((hi + d1 : Nat) : Int) := jj (by omega)
  have hw3 : IntKind.u64.wrap (((hi + d1 : Nat) : Int) + d2) = (c' : Int) := by rw [jj (by omega)]; rw [hhi]
  obtain ⟨hd, hhd⟩ : ∃ t, t = hi + d1 := ⟨_, rfl⟩
  rw [← hhd] at hw2 hw3
  have hw4 := zs (i := k) (by omega)
  have hnew : val (l.set m t) + B ^ (i + (k + 1)) * c' = val l0 + B ^ i * x * val (b.take (k + 1)) := by
   rw [← hm] at hv
   have := mac_set hset he hv
   rw [← Nat.add_assoc, ← hm, Nat.pow_succ, this, zA hy, Nat.mul_add, ← Nat.add_assoc, hm, Nat.pow_add]
   congr 1
   grind
  have hsame' : ∀ q, i + (k + 1) ≤ q → (l.set m t)[q]? = l0[q]? := fun q hq => by rw [List.getElem?_set_ne (by omega)]; exact hsame q (by omega)
  simp [f0, f1, f5, f6, f7, f8, hia, hlt, ho, zZ hx, zZ hy, hM, hA1, hA2, hw1, hw2, hw3, hw4, hmN, zH, Trm_mu, Trm_mul, Trm_add, zD]
  exact ⟨⟨k + 1, by omega, l.set m t, by simp [hl], hwl.set m htB, c', hdl, hnew, hsame', by rw [List.map_set]; rfl, rfl, by omega⟩, by omega⟩
 ·obtain rfl : k = b.length := by omega
  rw [List.take_of_length_le (Nat.le_refl _)] at hv
  simp [f1, f8]
  exact hR _ l c hl hwl hcB hv hsame (by simp [f0]) (by simp [f1]) (by simp [f5]) (by simp [f6]) (by simp [f7])
theorem fJ : zG Tryz.prog base 124 (za wB) := by
 refine zd zB Trm_ok ze low124 fun args z hs hf => ?_
 unfold wB at hs
 split at hs
 case h_2 => cases hs
 rename_i xs ys
 split at hs
 case h_2 => cases hs
 rename_i a b ha hb
 cases hs
 obtain ⟨rfl, hla⟩ := zE ha
 obtain ⟨rfl, hlb⟩ := zE hb
 refine ⟨by simp [lf124], ?_⟩
 have wa := zC a
 have wb := zC b
 have va := zw a
 have vb := zw b
 have la : (zc a).length = len a := rfl
 have lb : (zc b).length = len b := rfl
 obtain ⟨N, hN⟩ : ∃ t, t = len a + len b := ⟨_, rfl⟩
 have hcap := wI N (by omega)
 have w1 : IntKind.i64.wrap ((len a : Int) + len b) = (N : Int) := by rw [← Int.natCast_add, ← hN]; exact yD (by omega)
 simp [lf124, la, lb, w1, hcap]
 simp only [lf124_B1, zr]
 refine zo (fun fr H => ∃ (i : Nat) (l : List Nat), i ≤ len a ∧ l.length = N ∧ Wf l ∧ val l = val ((zc a).take i) * b ∧ (∀ m, i + len b ≤ m → m < N → l[m]? = some 0) ∧ H = [zH 0 l] ∧
   fr 0 = .p (.lst ((zc a).map u64)) ∧ fr 1 = .p (.lst ((zc b).map u64)) ∧ fr 5 = .own 0 0 N 0 ∧ fr 6 = .p (.int .i64 i))
  (fun fr _ => len a - zD (fr 6)) ⟨0, List.replicate N 0, by omega, by simp, Wf.zeros _, by rw [kd]; simp [qg], fun m _ hm => by simp [hm], by simp [zH], by simp, by simp, by simp, by simp⟩ ?_
 rintro fr H ⟨i, l, hi, hl, hwl, hv, hz, rfl, f0, f1, f5, f6⟩
 by_cases hlt : i < len a
 ·obtain ⟨x, hx⟩ : ∃ x, (zc a)[i]? = some x := ⟨_, List.getElem?_eq_getElem (by omega)⟩
  obtain ⟨q, hq⟩ : ∃ t, t = i + len b := ⟨_, rfl⟩
  have hqN : q < N := by omega
  have w2 : IntKind.i64.wrap ((i : Int) + len b) = (q : Int) := by rw [← Int.natCast_add, ← hq]; exact yD (by omega)
  have w3 := zs (i := i) (by omega)
  simp [f0, f6, la, hlt]
  refine rmul_row (a := zc a) (b := zc b) (l0 := l) (i := i) (x := x) (N := N) wa wb (by rw [la, lb]; exact hN) (by omega) hx hl hwl rfl (by simp [f0]) (by simp [f1]) (by simp [f5]) (by simp [f6]) (by simp) (by simp) ?_
  intro fr' l' c hl' hw' hcB hv' hsame g0 g1 g5 g6 g7
  rw [lb, ← hq, vb] at hv'
  have ho : l'[q]? = some 0 := by rw [hsame q (by rw [lb]; omega)]; exact hz q (by omega) hqN
  have hset := pI c ho
  have hnv : val (l'.set q c) = val ((zc a).take (i + 1)) * b := by
   rw [zA hx, Nat.add_mul, ← hv, ← hv']
   omega
  have hnz : ∀ m, i + 1 + len b ≤ m → m < N → (l'.set q c)[m]? = some 0 := fun m hm hmN => by
   rw [List.getElem?_set_ne (by omega), hsame m (by rw [lb]; omega)]
   exact hz m (by omega) hmN
  simp [g0, g1, g5, g6, g7, lb, w2, w3, hqN, ho, zH, zD]
  exact ⟨⟨i + 1, by omega, l'.set q c, by simp [hl'], hw'.set q hcB, hnv, hnz, by rw [List.map_set]; rfl, by omega⟩, by omega⟩
 ·have hva : val ((zc a).take i) = a := by rw [List.take_of_length_le (by omega)]; exact va
  rw [hva] at hv
  obtain ⟨hT, ht⟩ := jS hl hwl (by omega) hv
  simp only [wD, jb] at ht
  simp [f0, f5, f6, la, hlt, zH, hl, hT, ht, zO, zQ, Trm_mu, Trm_trim, wD, jb, freeze1]
end Go.Proofs.YtgbjjikaenlkmaaGreat

namespace Go.Proofs.YtgbjjikaenlkmaaGreat
open Go Go.Abs
def lf112 : LFunc := ⟨17,[.slot 2],.seq (.region [Oa 1 (.newv 2 113 (Tm 0)),Oa 2 (.mov Kg)]) (.seq (.region [Oz 3 1 1,Oq 4 1 false 3,Oa 5 (.call 105 [Tm 4]),Om 6 5,Oc 7 6 (.fadr 0 (Tm 1)),Oc 8 6 (.load 1 false (Tm 7)),Oc 9 6 (.un .not (Tm 8)),Oj 10 6 9,Od 11 10 (.fadr 1 (Tm 1)),Od 12 10 (.load 1 false (Tm 11)),Od 13 10 (.len (Tm 12)),Od 14 10 (.bin .gtr (Tm 13) (Kz 0)),Oc 15 6 (.pick (Tm 10) Kt (Tm 14)),Ot 16 6 15,Om 2 16]) (.ret))⟩
theorem low112 : zf Tryz.prog gl0 112 = some lf112 := Go.Abs.lowF (by kernel_rfl)
def lf73 : LFunc := ⟨13,[.cell 2 2 true],.seq (.region [Oa 2 (.newv 2 113 (.cst (.agg [.p (.bool false),.tight []])))]) (.seq (.seq (.region [Om 3 0,Oa 4 (.bin .geq (Tm 3) (Kz 0))]) (.cond (Tm 4) (.seq (.region [Om 5 0,Oa 6 (.call 113 [Tm 5]),Oa 7 (.build (.agg [.p (.bool false),.tight []]) [(1,1,(Tm 6))]),Oy 2 2 7]) (.ret)) (.skip))) (.seq (.region [Om 8 0,Oa 9 (.conv (.toInt .u64) (Tm 8)),Oa 10 (.un .neg (Tm 9)),Oa 11 (.buildSl 1 147 (.p (.int .u64 0)) 1 [(0,(Tm 10))]),Oa 12 (.build (.agg [.p (.bool false),.tight []]) [(0,1,Kt),(1,1,(Tm 11))]),Oy 2 2 12]) (.ret)))⟩
theorem low73 : zf Tryz.prog gl0 73 = some lf73 := Go.Abs.lowF (by kernel_rfl)
def lf140 : LFunc := ⟨13,[.cell 4 2 true],.seq (.region [Oa 4 (.newv 2 113 (.cst (.agg [.p (.bool false),.tight []])))]) (.seq (.region [Om 5 0,Om 6 5,Oj 7 6 1,Oc 8 6 (.len (Tm 7)),Oc 9 6 (.bin .gtr (Tm 8) (Kz 0)),Ot 10 6 9,Om 11 1,Oa 12 (.build (.agg [.p (.bool false),.tight []]) [(0,1,(Tm 10)),(1,1,(Tm 11))]),Oy 2 4 12]) (.ret))⟩
theorem low140 : zf Tryz.prog gl0 140 = some lf140 := Go.Abs.lowF (by kernel_rfl)
def lf110 : LFunc := ⟨16,[.slot 2],.seq (.region [Oa 1 (.newv 2 113 (Tm 0)),Oa 2 (.mov (Kz 0))]) (.seq (.block 0 (.seq (.region [Oq 4 2 true 1,Oa 5 (.call 112 [Tm 4]),Oa 6 (.un .not (Tm 5)),Om 7 6,Od 8 7 (.fadr 1 (Tm 1)),Od 9 7 (.load 1 false (Tm 8)),Od 10 7 (.len (Tm 9)),Od 11 7 (.bin .eql (Tm 10) (Kz 0)),Ou 12 7 11,Om 3 12]) (.cond (Tm 3) (.seq (.region [Oa 2 (.mov (Kz 0))]) (.ret)) (.seq (.region [Oz 14 0 1,Oq 15 1 false 14,Om 13 15]) (.cond (Tm 13) (.seq (.region [Oa 2 (.mov (Kz (-1)))]) (.ret)) (.skip)))))) (.seq (.region [Oa 2 (.mov (Kz 1))]) (.ret)))⟩
theorem low110 : zf Tryz.prog gl0 110 = some lf110 := Go.Abs.lowF (by kernel_rfl)
def lf114 : LFunc := ⟨42,[.cell 4 2 true],.seq (.region [Oa 2 (.newv 2 113 (Tm 0)),Oa 3 (.newv 2 113 (Tm 1)),Oa 4 (.newv 2 113 (.cst (.agg [.p (.bool false),.tight []])))]) (.seq (.block 0 (.seq (.region [Oz 6 0 2,Oq 7 1 false 6,Oz 8 0 3,Oq 9 1 false 8,Oa 10 (.eqB false (Tm 7) (Tm 9)),Om 5 10]) (.cond (Tm 5) (.seq (.regionW [(Oz 11 0 2,.s),(Oq 12 1 false 11,.s),(Oz 13 1 2,.f),(Oq 14 1 false 13,.f),(Oz 15 1 3,.f),(Oq 16 1 false 15,.f),(Oa 17 (.call 141 [Tm 14,Tm 16]),.s),(Oa 18 (.call 140 [Tm 12,Tm 17]),.f),(Oy 2 4 18,.f)]) (.ret)) (.seq (.region [Oz 20 1 2,Oq 21 1 false 20,Oz 22 1 3,Oq 23 1 false 22,Oa 24 (.call 106 [Tm 21,Tm 23]),Oa 25 (.bin .lss (Tm 24) (Kz 0)),Om 19 25]) (.cond (Tm 19) (.seq (.regionW [(Oz 26 0 3,.s),(Oq 27 1 false 26,.s),(Oz 28 1 3,.f),(Oq 29 1 false 28,.f),(Oz 30 1 2,.f),(Oq 31 1 false 30,.f),(Oa 32 (.call 142 [Tm 29,Tm 31]),.s),(Oa 33 (.call 140 [Tm 27,Tm 32]),.f),(Oy 2 4 33,.f)]) (.ret)) (.skip)))))) (.seq (.regionW [(Oz 34 0 2,.s),(Oq 35 1 false 34,.s),(Oz 36 1 2,.f),(Oq 37 1 false 36,.f),(Oz 38 1 3,.f),(Oq 39 1 false 38,.f),(Oa 40 (.call 142 [Tm 37,Tm 39]),.s),(Oa 41 (.call 140 [Tm 35,Tm 40]),.f),(Oy 2 4 41,.f)]) (.ret)))⟩
theorem low114 : zf Tryz.prog gl0 114 = some lf114 := Go.Abs.lowF (by kernel_rfl)
def lf115 : LFunc := ⟨16,[.cell 4 2 true],.seq (.region [Oa 2 (.newv 2 113 (Tm 0)),Oa 3 (.newv 2 113 (Tm 1)),Oa 4 (.newv 2 113 (.cst (.agg [.p (.bool false),.tight []])))]) (.seq (.regionW [(Oz 5 0 2,.s),(Oq 6 1 false 5,.s),(Oz 7 0 3,.s),(Oq 8 1 false 7,.s),(Oa 9 (.eqB true (Tm 6) (Tm 8)),.f),(Oz 10 1 2,.f),(Oq 11 1 false 10,.f),(Oz 12 1 3,.f),(Oq 13 1 false 12,.f),(Oa 14 (.call 109 [Tm 11,Tm 13]),.s),(Oa 15 (.call 140 [Tm 9,Tm 14]),.f),(Oy 2 4 15,.f)]) (.ret))⟩
theorem low115 : zf Tryz.prog gl0 115 = some lf115 := Go.Abs.lowF (by kernel_rfl)
def lf38 : LFunc := ⟨16,[.cell 2 2 true],.seq (.region [Oa 2 (.newv 2 113 (.cst (.agg [.p (.bool false),.tight []])))]) (.seq (.region [Om 4 0,Oa 5 (.conv (.toInt .u64) (Tm 4)),Om 3 5]) (.seq (.seq (.region [Om 6 0,Oa 7 (.bin .lss (Tm 6) (Kz 0))]) (.cond (Tm 7) (.region [Om 8 3,Oa 9 (.un .neg (Tm 8)),Om 3 9]) (.skip))) (.seq (.region [Om 10 0,Oa 11 (.bin .lss (Tm 10) (Kz 0)),Om 12 3,Oa 13 (.buildSl 1 147 (.p (.int .u64 0)) 1 [(0,(Tm 12))]),Oa 14 (.call 66 [Tm 13]),Oa 15 (.call 65 [Tm 11,Tm 14]),Oy 2 2 15]) (.ret))))⟩
theorem low38 : zf Tryz.prog gl0 38 = some lf38 := Go.Abs.lowF (by kernel_rfl)
def lf63 : LFunc := ⟨17,[.slot 2],.seq (.region [Oa 1 (.newv 2 113 (Tm 0)),Oa 2 (.mov Kg)]) (.seq (.region [Oz 3 1 1,Oq 4 1 false 3,Oa 5 (.call 102 [Tm 4]),Om 6 5,Oc 7 6 (.fadr 0 (Tm 1)),Oc 8 6 (.load 1 false (Tm 7)),Oc 9 6 (.un .not (Tm 8)),Oj 10 6 9,Od 11 10 (.fadr 1 (Tm 1)),Od 12 10 (.load 1 false (Tm 11)),Od 13 10 (.len (Tm 12)),Od 14 10 (.bin .gtr (Tm 13) (Kz 0)),Oc 15 6 (.pick (Tm 10) Kt (Tm 14)),Ot 16 6 15,Om 2 16]) (.ret))⟩
theorem low63 : zf Tryz.prog gl0 63 = some lf63 := Go.Abs.lowF (by kernel_rfl)
def lf145 : LFunc := ⟨40,[.cell 4 2 true],.seq (.region [Oa 2 (.newv 2 113 (Tm 0)),Oa 3 (.newv 2 113 (Tm 1)),Oa 4 (.newv 2 113 (.cst (.agg [.p (.bool false),.tight []])))]) (.seq (.seq (.region [Oz 5 0 2,Oq 6 1 false 5,Oz 7 0 3,Oq 8 1 false 7,Oa 9 (.eqB false (Tm 6) (Tm 8))]) (.cond (Tm 9) (.seq (.regionW [(Oz 10 0 2,.s),(Oq 11 1 false 10,.s),(Oz 12 1 2,.f),(Oq 13 1 false 12,.f),(Oz 14 1 3,.f),(Oq 15 1 false 14,.f),(Oa 16 (.call 158 [Tm 13,Tm 15]),.s),(Oa 17 (.call 65 [Tm 11,Tm 16]),.f),(Oy 2 4 17,.f)]) (.ret)) (.skip))) (.seq (.seq (.region [Oz 18 1 2,Oq 19 1 false 18,Oz 20 1 3,Oq 21 1 false 20,Oa 22 (.call 120 [Tm 19,Tm 21]),Oa 23 (.bin .geq (Tm 22) (Kz 0))]) (.cond (Tm 23) (.seq (.regionW [(Oz 24 0 2,.s),(Oq 25 1 false 24,.s),(Oz 26 1 2,.f),(Oq 27 1 false 26,.f),(Oz 28 1 3,.f),(Oq 29 1 false 28,.f),(Oa 30 (.call 134 [Tm 27,Tm 29]),.s),(Oa 31 (.call 65 [Tm 25,Tm 30]),.f),(Oy 2 4 31,.f)]) (.ret)) (.skip))) (.seq (.regionW [(Oz 32 0 3,.s),(Oq 33 1 false 32,.s),(Oz 34 1 3,.f),(Oq 35 1 false 34,.f),(Oz 36 1 2,.f),(Oq 37 1 false 36,.f),(Oa 38 (.call 134 [Tm 35,Tm 37]),.s),(Oa 39 (.call 65 [Tm 33,Tm 38]),.f),(Oy 2 4 39,.f)]) (.ret))))⟩
theorem low145 : zf Tryz.prog gl0 145 = some lf145 := Go.Abs.lowF (by kernel_rfl)
def lf65 : LFunc := ⟨13,[.cell 4 2 true],.seq (.region [Oa 4 (.newv 2 113 (.cst (.agg [.p (.bool false),.tight []])))]) (.seq (.region [Om 5 0,Om 6 5,Oj 7 6 1,Oc 8 6 (.len (Tm 7)),Oc 9 6 (.bin .gtr (Tm 8) (Kz 0)),Ot 10 6 9,Om 11 1,Oa 12 (.build (.agg [.p (.bool false),.tight []]) [(0,1,(Tm 10)),(1,1,(Tm 11))]),Oy 2 4 12]) (.ret))⟩
theorem low65 : zf Tryz.prog gl0 65 = some lf65 := Go.Abs.lowF (by kernel_rfl)
def lf159 : LFunc := ⟨25,[.slot 4],.seq (.region [Oa 2 (.newv 2 113 (Tm 0)),Oa 3 (.newv 2 113 (Tm 1)),Oa 4 (.mov (Kz 0))]) (.seq (.seq (.region [Oz 5 0 2,Oq 6 1 false 5,Oz 7 0 3,Oq 8 1 false 7,Oa 9 (.eqB true (Tm 6) (Tm 8))]) (.cond (Tm 9) (.seq (.seq (.region [Oz 10 0 2,Oq 11 1 false 10]) (.cond (Tm 11) (.seq (.region [Oa 4 (.mov (Kz (-1)))]) (.ret)) (.skip))) (.seq (.region [Oa 4 (.mov (Kz 1))]) (.ret))) (.skip))) (.seq (.seq (.region [Oz 12 0 2,Oq 13 1 false 12]) (.cond (Tm 13) (.seq (.region [Oz 14 1 2,Oq 15 1 false 14,Oz 16 1 3,Oq 17 1 false 16,Oa 18 (.call 120 [Tm 15,Tm 17]),Oa 19 (.un .neg (Tm 18)),Om 4 19]) (.ret)) (.skip))) (.seq (.region [Oz 20 1 2,Oq 21 1 false 20,Oz 22 1 3,Oq 23 1 false 22,Oa 24 (.call 120 [Tm 21,Tm 23]),Om 4 24]) (.ret))))⟩
theorem low159 : zf Tryz.prog gl0 159 = some lf159 := Go.Abs.lowF (by kernel_rfl)
end Go.Proofs.YtgbjjikaenlkmaaGreat

namespace Go.Proofs.YtgbjjikaenlkmaaGreat
open Go Go.Abs Go.Limbs
variable {base : Prot}
set_option maxRecDepth 20000
attribute [local irreducible] vc
attribute [local simp] za zi freezeL fuel zk u64 au
def iP (s : Bool) (l : List Nat) : PVal := .agg [.bool s, .lst (l.map u64)]
def iN (z : Int) : PVal := iP (decide (z < 0)) (zc z.natAbs)
def zOf (s : Bool) (n : Nat) : Int := if s then -(n : Int) else n
def okI (s : Bool) (l : List Nat) : Bool := okL l && (!s || decide (0 < l.length))
def zl (z : Int) : Nat := len z.natAbs
theorem vw (s : Bool) (n : Nat) : (zOf s n).natAbs = n := by cases s <;> simp [zOf]
theorem iP_zOf {s : Bool} {n : Nat} (h : s = true → n ≠ 0) : iP s (zc n) = iN (zOf s n) := by
 unfold iN
 rw [vw]
 congr 1
 cases s with
 | false => simp [zOf]
 | true => have := h rfl; simp [zOf]; omega
theorem wide_zOf (s : Bool) (n : Nat) : iP (s && decide (0 < (zc n).length)) (zc n) = iN (zOf s n) := by
 by_cases h : n = 0
 ·subst h
  rw [zy]
  cases s <;> simp [iN, zOf, zy]
 ·have hl : 0 < (zc n).length := by
   have : (zc n).length ≠ 0 := fun e => h (qd.1 e)
   omega
  rw [decide_eq_true hl, Bool.and_true]
  exact iP_zOf fun _ => h
theorem sC {s : Bool} {l : List Nat} (h : okI s l = true) : ∃ z : Int, zl z ≤ 64 ∧ s = decide (z < 0) ∧ l = zc z.natAbs := by
 unfold okI at h
 simp only [Bool.and_eq_true, Bool.or_eq_true, Bool.not_eq_true', decide_eq_true_eq] at h
 obtain ⟨n, rfl, hn⟩ := uB h.1
 have hs : s = true → n ≠ 0 := fun e h0 => by
  subst h0
  rcases h.2 with h2 | h2
  ·rw [e] at h2; cases h2
  ·rw [zy] at h2; simp at h2
 refine ⟨zOf s n, by unfold zl; rw [vw]; exact hn, ?_, by rw [vw]⟩
 cases s with
 | false => simp [zOf]
 | true => have := hs rfl; simp [zOf]; omega
theorem fS {z : Int} (h : zl z ≤ 64) : okI (decide (z < 0)) (zc z.natAbs) = true := by
 unfold okI
 rw [mW h, Bool.true_and]
 by_cases hz : z < 0
 ·have : (zc z.natAbs).length ≠ 0 := fun e => by have := qd.1 e; omega
  have hl : 0 < (zc z.natAbs).length := by omega
  simp [hz, hl]
 ·simp [hz]
theorem vB (z : Int) : zOf (decide (z < 0)) z.natAbs = z := by
 by_cases h : z < 0
 ·simp [zOf, h]; omega
 ·simp [zOf, h]; omega
def sIV : List PVal → Option PVal
 | [.agg [.bool s, .lst xs]] => match jJ xs with | some l => some (.bool (okI s l)) | none => none
 | _ => none
theorem bI {s : Bool} {l : List Nat} (h : Wf l) : sIV [.agg [.bool s, .lst (l.map u64)]] = some (.bool (okI s l)) := by simp only [sIV, zX h]
def Tiv1 : Tab := Tab.none.with 105 (za jl)
theorem Tiv1_ok : TabOk Tryz.prog base Tiv1 := Tab.with_ok Tab.none_ok rn
theorem o4 (f : FuncId) (a : List AVal) (H : zb) : Tiv1.mu f a H = none := (rfl)
theorem o5 : Tiv1.fn 105 = za jl := (rfl)
theorem xG : zG Tryz.prog base 112 (za sIV) := by
 refine zd zB Tiv1_ok ze low112 fun args z hs hf => ?_
 unfold sIV at hs
 split at hs
 case h_2 => cases hs
 rename_i s xs
 split at hs
 case h_2 => cases hs
 rename_i l hd
 obtain ⟨rfl, wl⟩ := zI hd
 cases hs
 refine ⟨by simp [lf112], ?_⟩
 have hv := jz wl
 unfold okI
 cases ho : okL l with
 | false => rw [ho] at hv; simp [lf112, hv, o4, o5]
 | true =>
  rw [ho] at hv
  cases s with
  | false => simp [lf112, hv, o4, o5]
  | true => simp [lf112, hv, o4, o5]
def jR : List PVal → Option PVal
 | [.bool s, .lst xs] => match jJ xs with | some l => some (iP (s && decide (0 < l.length)) l) | none => none
 | _ => none
theorem vS (s : Bool) (n : Nat) : ∃ b l, iN (zOf s n) = iP b l ∧ Wf l ∧ jR [.bool s, .lst ((zc n).map u64)] = some (.agg [.bool b, .lst (l.map u64)]) :=
 ⟨_, _, (wide_zOf s n).symm, zC n, by simp only [jR, zX (zC n)]; rfl⟩
theorem wide_ok : zG Tryz.prog base 140 (za jR) := by
 refine zd zB Tab.none_ok ze low140 fun args z hs hf => ?_
 unfold jR at hs
 split at hs
 case h_2 => cases hs
 rename_i s xs
 split at hs
 case h_2 => cases hs
 rename_i l hd
 obtain ⟨rfl, wl⟩ := zI hd
 cases hs
 refine ⟨by simp [lf140], ?_⟩
 cases s with
 | false => simp [lf140, iP]
 | true => simp [lf140, iP]
def tX (s : Bool) (xs : List PVal) : Option Int := match vM xs with | some n => if s = true ∧ n = 0 then none else some (zOf s n) | none => none
theorem jE {s : Bool} {xs : List PVal} {z : Int} (h : tX s xs = some z) : zl z ≤ 100000 ∧ s = decide (z < 0) ∧ xs = (zc z.natAbs).map u64 := by
 unfold tX at h
 split at h
 case h_2 => cases h
 rename_i n hn
 split at h
 ·cases h
 rename_i hc
 cases h
 obtain ⟨rfl, hl⟩ := zE hn
 refine ⟨by unfold zl; rw [vw]; exact hl, ?_, by rw [vw]⟩
 cases s with
 | false => simp [zOf]
 | true => have : n ≠ 0 := fun e => hc ⟨rfl, e⟩; simp [zOf]; omega
theorem yr {z : Int} (h : zl z ≤ 100000) : tX (decide (z < 0)) ((zc z.natAbs).map u64) = some z := by
 unfold tX
 rw [zM h]
 simp only
 rw [if_neg, vB]
 rintro ⟨h1, h2⟩
 have := of_decide_eq_true h1
 omega
def rO : List PVal → Option PVal
 | [.agg [.bool s, .lst xs], .agg [.bool t, .lst ys]] => match tX s xs, tX t ys with | some z, some w => some (.int .i64 (uc z w)) | _, _ => none
 | _ => none
theorem sWOrd_num {z w : Int} (hz : zl z ≤ 100000) (hw : zl w ≤ 100000) : rO [iN z, iN w] = some (.int .i64 (uc z w)) := by
 simp only [rO, iN, iP, yr hz, yr hw]
theorem cmpZ_pos {z w : Int} (hz : ¬ z < 0) (hw : ¬ w < 0) : qm z.natAbs w.natAbs = uc z w := by
 unfold qm uc
 by_cases h : z < w
 ·rw [if_pos h, if_pos (by omega)]
 ·rw [if_neg h, if_neg (by omega)]
  by_cases h2 : z = w
  ·rw [if_pos h2, if_pos (by omega)]
  ·rw [if_neg h2, if_neg (by omega)]
def Two : Tab := ((((Tab.none.with 106 (za qX)).with 141 (za bH)).with 142 (za kn)).with 109 (za wB)).with 140 (za jR)
theorem Two_ok : TabOk Tryz.prog base Two := Tab.with_ok (Tab.with_ok (Tab.with_ok (Tab.with_ok (Tab.with_ok Tab.none_ok bQ) plus_ok) aQ) rq) wide_ok
theorem cm (f : FuncId) (a : List AVal) (H : zb) : Two.mu f a H = none := (rfl)
theorem uZ : Two.fn 106 = za qX ∧ Two.fn 141 = za bH ∧ Two.fn 142 = za kn ∧ Two.fn 109 = za wB ∧ Two.fn 140 = za jR := ⟨rfl, rfl, rfl, rfl, rfl⟩
theorem ec {z w : Int} (h : decide (z < 0) = decide (w < 0)) : zOf (decide (z < 0)) (z.natAbs + w.natAbs) = z + w := by
 by_cases hz : z < 0
 ·have hw : w < 0 := by simpa [hz] using h
  simp [zOf, hz]; omega
 ·have hw : ¬ w < 0 := by simpa [hz] using h
  simp [zOf, hz]; omega
theorem eo {z w : Int} (h : decide (z < 0) ≠ decide (w < 0)) (hl : z.natAbs < w.natAbs) : zOf (decide (w < 0)) (w.natAbs - z.natAbs) = z + w := by
 by_cases hz : z < 0
 ·have hw : ¬ w < 0 := by simpa [hz] using h
  simp [zOf, hw]; omega
 ·have hw : w < 0 := by simpa [hz] using h
  simp [zOf, hw]; omega
theorem eh {z w : Int} (h : decide (z < 0) ≠ decide (w < 0)) (hl : w.natAbs ≤ z.natAbs) : zOf (decide (z < 0)) (z.natAbs - w.natAbs) = z + w := by
 by_cases hz : z < 0
 ·have hw : ¬ w < 0 := by simpa [hz] using h
  simp [zOf, hz]; omega
 ·have hw : w < 0 := by simpa [hz] using h
  simp [zOf, hz]; omega
theorem pH (z w : Int) : zOf (decide (z < 0) != decide (w < 0)) (z.natAbs * w.natAbs) = z * w := by
 have hz : z = zOf (decide (z < 0)) z.natAbs := (vB z).symm
 have hw : w = zOf (decide (w < 0)) w.natAbs := (vB w).symm
 generalize hs : decide (z < 0) = s at *
 generalize ht : decide (w < 0) = t at *
 generalize z.natAbs = m at *
 generalize w.natAbs = n at *
 subst hz hw
 cases s <;> cases t <;> simp [zOf, Int.neg_mul, Int.mul_neg]
def kf : List PVal → Option PVal
 | [.agg [.bool s, .lst xs], .agg [.bool t, .lst ys]] => match tX s xs, tX t ys with | some z, some w => some (iN (z + w)) | _, _ => none
 | _ => none
theorem rN {z w : Int} (hz : zl z ≤ 100000) (hw : zl w ≤ 100000) : kf [iN z, iN w] = some (iN (z + w)) := by
 simp only [kf, iN, iP, yr hz, yr hw]
def uN : List PVal → Option PVal
 | [.agg [.bool s, .lst xs], .agg [.bool t, .lst ys]] => match tX s xs, tX t ys with | some z, some w => some (iN (z * w)) | _, _ => none
 | _ => none
theorem nJ {z w : Int} (hz : zl z ≤ 100000) (hw : zl w ≤ 100000) : uN [iN z, iN w] = some (iN (z * w)) := by
 simp only [uN, iN, iP, yr hz, yr hw]
theorem aX : zG Tryz.prog base 114 (za kf) := by
 refine zd zB Two_ok ze low114 fun args z hs hf => ?_
 unfold kf at hs
 split at hs
 case h_2 => cases hs
 rename_i s xs t ys
 split at hs
 case h_2 => cases hs
 rename_i z w hz hw
 cases hs
 obtain ⟨lz, rfl, rfl⟩ := jE hz
 obtain ⟨lw, rfl, rfl⟩ := jE hw
 refine ⟨by simp [lf114], ?_⟩
 unfold zl at lz lw
 obtain ⟨s, hs⟩ : ∃ s, s = decide (z < 0) := ⟨_, rfl⟩
 obtain ⟨t, ht⟩ : ∃ t, t = decide (w < 0) := ⟨_, rfl⟩
 obtain ⟨m, hm⟩ : ∃ m, m = z.natAbs := ⟨_, rfl⟩
 obtain ⟨n, hn⟩ : ∃ n, n = w.natAbs := ⟨_, rfl⟩
 have e1 := @ec z w
 have e2 := @eo z w
 have e3 := @eh z w
 rw [← hm, ← hn, ← hs, ← ht] at e1 e2 e3
 rw [← hm] at lz
 rw [← hn] at lw
 rw [← hs, ← ht, ← hm, ← hn]
 have hP := xg lz lw
 have hO := jm lz lw
 by_cases hst : s = t
 ·obtain ⟨b, l, hbl, wl, hW⟩ := vS s (m + n)
  rw [← e1 hst, hbl]
  have hbe : (s == t) = true := by simp [hst]
  obtain ⟨p, hp⟩ : ∃ p, p = m + n := ⟨_, rfl⟩
  rw [← hp] at hP hW
  simp [lf114, hbe, zu, iP, cm, uZ]
  refine ⟨[], ?_⟩
  simp [hP, hW, cm, uZ]
 ·have hbe : (s == t) = false := by simp [hst]
  by_cases hlt : m < n
  ·obtain ⟨b, l, hbl, wl, hW⟩ := vS t (n - m)
   rw [← e2 hst hlt, hbl]
   rw [jY hlt] at hO
   have hM := ut lw lz (Nat.le_of_lt hlt)
   obtain ⟨p, hp⟩ : ∃ p, p = n - m := ⟨_, rfl⟩
   rw [← hp] at hM hW
   simp [lf114, hbe, hO, zu, iP, cm, uZ]
   refine ⟨[], ?_⟩
   simp [hM, hW, cm, uZ]
  ·obtain ⟨b, l, hbl, wl, hW⟩ := vS s (m - n)
   rw [← e3 hst (by omega), hbl]
   have hcn : ¬ qm m n < 0 := fun h => by have := md.1 h; omega
   obtain ⟨c, hc⟩ : ∃ c, c = qm m n := ⟨_, rfl⟩
   rw [← hc] at hO hcn
   have hM := ut lz lw (by omega)
   obtain ⟨p, hp⟩ : ∃ p, p = m - n := ⟨_, rfl⟩
   rw [← hp] at hM hW
   simp [lf114, hbe, hO, hcn, zu, iP, cm, uZ]
   refine ⟨[], ?_⟩
   simp [hM, hW, cm, uZ]
theorem xH : zG Tryz.prog base 115 (za uN) := by
 refine zd zB Two_ok ze low115 fun args z hs hf => ?_
 unfold uN at hs
 split at hs
 case h_2 => cases hs
 rename_i s xs t ys
 split at hs
 case h_2 => cases hs
 rename_i z w hz hw
 cases hs
 obtain ⟨lz, rfl, rfl⟩ := jE hz
 obtain ⟨lw, rfl, rfl⟩ := jE hw
 refine ⟨by simp [lf115], ?_⟩
 unfold zl at lz lw
 have e1 := pH z w
 obtain ⟨s, hs⟩ : ∃ s, s = decide (z < 0) := ⟨_, rfl⟩
 obtain ⟨t, ht⟩ : ∃ t, t = decide (w < 0) := ⟨_, rfl⟩
 obtain ⟨m, hm⟩ : ∃ m, m = z.natAbs := ⟨_, rfl⟩
 obtain ⟨n, hn⟩ : ∃ n, n = w.natAbs := ⟨_, rfl⟩
 rw [← hm, ← hn, ← hs, ← ht] at e1
 rw [← hm] at lz
 rw [← hn] at lw
 rw [← hs, ← ht, ← hm, ← hn]
 have hP := wz lz lw
 obtain ⟨b, l, hbl, wl, hW⟩ := vS (s != t) (m * n)
 rw [← e1, hbl]
 obtain ⟨p, hp⟩ : ∃ p, p = m * n := ⟨_, rfl⟩
 rw [← hp] at hP hW
 rw [show (s != t) = (!s == t) from by cases s <;> cases t <;> rfl] at hW
 simp [lf115, zu, iP, cm, uZ]
 refine ⟨[], ?_⟩
 simp [hP, hW, cm, uZ]
def hN (z : Int) : PVal := if zl z ≤ 64 then iN z else iP false []
def hE (z : Int) : Int := if zl z ≤ 64 then 0 else 4
def zL (s : Bool) (l : List Nat) : Int := zOf s (val l)
theorem bA (z : Int) : zL (decide (z < 0)) (zc z.natAbs) = z := by unfold zL; rw [zw, vB]
def fB (z : Int) : Int := if z < 0 then -1 else if z = 0 then 0 else 1
def dD : List PVal → Option PVal
 | [.agg [.bool s, .lst xs]] => match jJ xs with | some a => some (.int .i64 (if okI s a then fB (zL s a) else 0)) | _ => none
 | _ => none
theorem eV {s : Bool} {a : List Nat} (ha : Wf a) : dD [.agg [.bool s, .lst (a.map u64)]] = some (.int .i64 (if okI s a then fB (zL s a) else 0)) := by simp only [dD, zX ha]
def Tio : Tab := ((((Tab.none.with 112 (za sIV)).with 114 (za kf)).with 115 (za uN)).with 140 (za jR)).with 117 (za vr)
theorem Tio_ok : TabOk Tryz.prog base Tio := Tab.with_ok (Tab.with_ok (Tab.with_ok (Tab.with_ok (Tab.with_ok Tab.none_ok xG) aX) xH) wide_ok) yv
theorem o6 (f : FuncId) (a : List AVal) (H : zb) : Tio.mu f a H = none := (rfl)
theorem pY : Tio.fn 112 = za sIV ∧ Tio.fn 114 = za kf ∧ Tio.fn 115 = za uN ∧ Tio.fn 140 = za jR ∧ Tio.fn 117 = za vr := ⟨rfl, rfl, rfl, rfl, rfl⟩
theorem iN_case (z : Int) : iN z = .agg [.bool (decide (z < 0)), .lst ((zc z.natAbs).map u64)] := rfl
theorem isign_ok : zG Tryz.prog base 110 (za dD) := by
 refine zd zB Tio_ok ze low110 fun args z hs hf => ?_
 unfold dD at hs
 split at hs
 case h_2 => cases hs
 rename_i s xs
 split at hs
 case h_2 => cases hs
 rename_i a ha
 obtain ⟨rfl, wa⟩ := zI ha
 cases hs
 refine ⟨by simp [lf110], ?_⟩
 have hv := bI (s := s) wa
 cases ho : okI s a with
 | false => rw [ho] at hv; simp [lf110, hv, o6, pY]
 | true =>
  rw [ho] at hv
  obtain ⟨z, lz, rfl, rfl⟩ := sC ho
  rw [bA]
  have ll : (zc z.natAbs).length = len z.natAbs := rfl
  by_cases h0 : z = 0
  ·subst h0
   simp [zy] at hv
   simp [lf110, hv, zy, fB, o6, pY]
  ·have hn0 : len z.natAbs ≠ 0 := fun e => h0 (by have h6 := qd.1 e; omega)
   have hl : ((len z.natAbs : Int) == 0) = false := beq_false_of_ne (by omega)
   by_cases hz : z < 0
   ·simp [hz] at hv
    simp [lf110, hv, hz, ll, hl, fB, o6, pY]
   ·simp [hz] at hv
    simp [lf110, hv, hz, h0, ll, hl, fB, o6, pY]
def r8 : List PVal → Option PVal
 | [.int .i64 n] => if -9223372036854775808 ≤ n ∧ n < 9223372036854775808 then some (iN n) else none
 | _ => none
theorem cB {n : Int} (h1 : -9223372036854775808 ≤ n) (h2 : n < 9223372036854775808) : r8 [.int .i64 n] = some (iN n) := if_pos ⟨h1, h2⟩
theorem ofL_num {n : Int} (h0 : 0 ≤ n) (h : n < 9223372036854775808) : ofL n = zc n.natAbs := by
 unfold ofL
 by_cases hz : n ≤ 0
 ·have : n = 0 := by omega
  subst this
  simp [zy]
 ·rw [if_neg hz, IntKind.wrap_u64, kG (by omega) (by rw [qI]; omega)]
  congr 1
  omega
def Tof : Tab := Tab.none.with 113 (za sOf)
theorem Tof_ok : TabOk Tryz.prog base Tof := Tab.with_ok Tab.none_ok of_ok
theorem Tof_mu (f : FuncId) (a : List AVal) (H : zb) : Tof.mu f a H = none := (rfl)
theorem Tof_fn : Tof.fn 113 = za sOf := (rfl)
theorem iof_ok : zG Tryz.prog base 73 (za r8) := by
 refine zd zB Tof_ok ze low73 fun args z hs hf => ?_
 unfold r8 at hs
 split at hs
 case h_2 => cases hs
 rename_i n
 split at hs
 case isFalse => cases hs
 rename_i hc
 cases hs
 refine ⟨by simp [lf73], ?_⟩
 by_cases h0 : 0 ≤ n
 ·have h1 : sOf [.int .i64 n] = some (.lst ((ofL n).map u64)) := rfl
  rw [ofL_num h0 hc.2] at h1
  have hn : ¬ n < 0 := by omega
  simp [lf73, h0, h1, hn, iN, iP, Tof_mu, Tof_fn]
 ·have hn : n < 0 := by omega
  have w1 : IntKind.u64.wrap n = n + 18446744073709551616 := by rw [IntKind.wrap_u64]; omega
  obtain ⟨m, hm⟩ : ∃ m, m = n.natAbs := ⟨_, rfl⟩
  have w2 : IntKind.u64.wrap (-(n + 18446744073709551616)) = (m : Int) := by rw [IntKind.wrap_u64]; omega
  have hl : zc m = [m] := kG (by omega) (by rw [qI]; omega)
  unfold iN iP
  rw [← hm, hl]
  simp [lf73, h0, hn, w1, w2, zN]
def Rv : Tab := Tab.none.with 102 (za jl)
theorem Rv_ok : TabOk Tryz.prog base Rv := Tab.with_ok Tab.none_ok xp
theorem Rv_mu (f : FuncId) (a : List AVal) (H : zb) : Rv.mu f a H = none := (rfl)
theorem Rv_fn : Rv.fn 102 = za jl := (rfl)
theorem l5 : zG Tryz.prog base 63 (za sIV) := by
 refine zd zB Rv_ok ze low63 fun args z hs hf => ?_
 unfold sIV at hs
 split at hs
 case h_2 => cases hs
 rename_i s xs
 split at hs
 case h_2 => cases hs
 rename_i l hd
 obtain ⟨rfl, wl⟩ := zI hd
 cases hs
 refine ⟨by simp [lf63], ?_⟩
 have hv := jz wl
 unfold okI
 cases ho : okL l with
 | false => rw [ho] at hv; simp [lf63, hv, Rv_mu, Rv_fn]
 | true =>
  rw [ho] at hv
  cases s with
  | false => simp [lf63, hv, Rv_mu, Rv_fn]
  | true => simp [lf63, hv, Rv_mu, Rv_fn]
theorem mP : zG Tryz.prog base 65 (za jR) := by
 refine zd zB Tab.none_ok ze low65 fun args z hs hf => ?_
 unfold jR at hs
 split at hs
 case h_2 => cases hs
 rename_i s xs
 split at hs
 case h_2 => cases hs
 rename_i l hd
 obtain ⟨rfl, wl⟩ := zI hd
 cases hs
 refine ⟨by simp [lf65], ?_⟩
 cases s with
 | false => simp [lf65, iP]
 | true => simp [lf65, iP]
def Ro : Tab := ((((Tab.none.with 120 (za qX)).with 158 (za bH)).with 134 (za kn)).with 124 (za wB)).with 65 (za jR)
theorem Ro_ok : TabOk Tryz.prog base Ro := Tab.with_ok (Tab.with_ok (Tab.with_ok (Tab.with_ok (Tab.with_ok Tab.none_ok fM) radd_ok) rsub_ok) fJ) mP
theorem pA (f : FuncId) (a : List AVal) (H : zb) : Ro.mu f a H = none := (rfl)
theorem cu : Ro.fn 120 = za qX ∧ Ro.fn 158 = za bH ∧ Ro.fn 134 = za kn ∧ Ro.fn 124 = za wB ∧ Ro.fn 65 = za jR := ⟨rfl, rfl, rfl, rfl, rfl⟩
theorem ricmp_ok : zG Tryz.prog base 159 (za rO) := by
 refine zd zB Ro_ok ze low159 fun args z hs hf => ?_
 unfold rO at hs
 split at hs
 case h_2 => cases hs
 rename_i s xs t ys
 split at hs
 case h_2 => cases hs
 rename_i z w hz hw
 cases hs
 obtain ⟨lz, rfl, rfl⟩ := jE hz
 obtain ⟨lw, rfl, rfl⟩ := jE hw
 refine ⟨by simp [lf159], ?_⟩
 have h1 := jm lz lw
 by_cases hz0 : z < 0
 ·by_cases hw0 : w < 0
  ·have hn : uc z w = -qm z.natAbs w.natAbs := by
    unfold qm uc
    by_cases h : z < w
    ·rw [if_pos h, if_neg (by omega), if_neg (by omega)]
    ·rw [if_neg h]
     by_cases h2 : z = w
     ·rw [if_pos h2, if_neg (by omega), if_pos (by omega)]; rfl
     ·rw [if_neg h2, if_pos (by omega)]; rfl
   have hcc : qm z.natAbs w.natAbs = -1 ∨ qm z.natAbs w.natAbs = 0 ∨ qm z.natAbs w.natAbs = 1 := by
    unfold qm
    split
    ·exact .inl rfl
    ·split
     ·exact .inr (.inl rfl)
     ·exact .inr (.inr rfl)
   obtain ⟨c, hc⟩ : ∃ c, c = qm z.natAbs w.natAbs := ⟨_, rfl⟩
   rw [← hc] at h1 hn hcc
   have hw' : IntKind.i64.wrap (-c) = -c := IntWalk.i64_in _ (by omega)
   simp [lf159, hz0, hw0, h1, hn, hw', pA, cu]
  ·have : uc z w = -1 := if_pos (by omega)
   simp [lf159, hz0, hw0, this]
 ·by_cases hw0 : w < 0
  ·have : uc z w = 1 := by unfold uc; rw [if_neg (by omega), if_neg (by omega)]
   simp [lf159, hz0, hw0, this]
  ·rw [cmpZ_pos hz0 hw0] at h1
   simp [lf159, hz0, hw0, h1, pA, cu]
theorem riadd_ok : zG Tryz.prog base 145 (za kf) := by
 refine zd zB Ro_ok ze low145 fun args z hs hf => ?_
 unfold kf at hs
 split at hs
 case h_2 => cases hs
 rename_i s xs t ys
 split at hs
 case h_2 => cases hs
 rename_i z w hz hw
 cases hs
 obtain ⟨lz, rfl, rfl⟩ := jE hz
 obtain ⟨lw, rfl, rfl⟩ := jE hw
 refine ⟨by simp [lf145], ?_⟩
 unfold zl at lz lw
 obtain ⟨s, hs⟩ : ∃ s, s = decide (z < 0) := ⟨_, rfl⟩
 obtain ⟨t, ht⟩ : ∃ t, t = decide (w < 0) := ⟨_, rfl⟩
 obtain ⟨m, hm⟩ : ∃ m, m = z.natAbs := ⟨_, rfl⟩
 obtain ⟨n, hn⟩ : ∃ n, n = w.natAbs := ⟨_, rfl⟩
 have e1 := @ec z w
 have e2 := @eo z w
 have e3 := @eh z w
 rw [← hm, ← hn, ← hs, ← ht] at e1 e2 e3
 rw [← hm] at lz
 rw [← hn] at lw
 rw [← hs, ← ht, ← hm, ← hn]
 have hP := xg lz lw
 have hO := jm lz lw
 by_cases hst : s = t
 ·obtain ⟨b, l, hbl, wl, hW⟩ := vS s (m + n)
  rw [← e1 hst, hbl]
  have hbe : (s == t) = true := by simp [hst]
  obtain ⟨p, hp⟩ : ∃ p, p = m + n := ⟨_, rfl⟩
  rw [← hp] at hP hW
  simp [lf145, hbe, zu, iP, pA, cu]
  refine ⟨[], ?_⟩
  simp [hP, hW, pA, cu]
 ·have hbe : (s == t) = false := by simp [hst]
  by_cases hlt : m < n
  ·obtain ⟨b, l, hbl, wl, hW⟩ := vS t (n - m)
   rw [← e2 hst hlt, hbl]
   rw [jY hlt] at hO
   have hM := ut lw lz (Nat.le_of_lt hlt)
   obtain ⟨p, hp⟩ : ∃ p, p = n - m := ⟨_, rfl⟩
   rw [← hp] at hM hW
   simp [lf145, hbe, hO, zu, iP, pA, cu]
   refine ⟨[], ?_⟩
   simp [hM, hW, pA, cu]
  ·obtain ⟨b, l, hbl, wl, hW⟩ := vS s (m - n)
   rw [← e3 hst (by omega), hbl]
   have hcn : ¬ qm m n < 0 := fun h => by have := md.1 h; omega
   have hcp : (0 : Int) ≤ qm m n := by omega
   obtain ⟨c, hc⟩ : ∃ c, c = qm m n := ⟨_, rfl⟩
   rw [← hc] at hO hcn hcp
   have hM := ut lz lw (by omega)
   obtain ⟨p, hp⟩ : ∃ p, p = m - n := ⟨_, rfl⟩
   rw [← hp] at hM hW
   simp [lf145, hbe, hO, hcp, zu, iP, pA, cu]
   refine ⟨[], ?_⟩
   simp [hM, hW, pA, cu]
def Rof : Tab := (Tab.none.with 66 (za qF)).with 65 (za jR)
theorem Rof_ok : TabOk Tryz.prog base Rof := Tab.with_ok (Tab.with_ok Tab.none_ok ux) mP
theorem Rof_mu (f : FuncId) (a : List AVal) (H : zb) : Rof.mu f a H = none := (rfl)
theorem Rof_fns : Rof.fn 66 = za qF ∧ Rof.fn 65 = za jR := ⟨rfl, rfl⟩
theorem riof_ok : zG Tryz.prog base 38 (za r8) := by
 refine zd zB Rof_ok ze low38 fun args z hs hf => ?_
 unfold r8 at hs
 split at hs
 case h_2 => cases hs
 rename_i n
 split at hs
 case isFalse => cases hs
 rename_i hc
 cases hs
 refine ⟨by simp [lf38], ?_⟩
 obtain ⟨m, hm⟩ : ∃ m, m = n.natAbs := ⟨_, rfl⟩
 have hmB : m < B := by rw [qI]; omega
 have ht := vg (l := [m]) (Wf.cons hmB Wf.nil) (by simp)
 rw [show val [m] = m from by simp [val]] at ht
 simp only [List.map_cons, List.map_nil, u64] at ht
 obtain ⟨b1, l1, hbl1, wl1, hW⟩ := vS (decide (n < 0)) m
 rw [hm, vB] at hbl1
 rw [hbl1]
 by_cases h0 : n < 0
 ·have w1 : IntKind.u64.wrap n = n + 18446744073709551616 := by rw [IntKind.wrap_u64]; omega
  have w2 : IntKind.u64.wrap (-(n + 18446744073709551616)) = (m : Int) := by rw [IntKind.wrap_u64]; omega
  simp only [h0, decide_true] at hW
  simp [lf38, h0, w1, w2, ht, hW, iP, zN, freeze1, Rof_mu, Rof_fns]
 ·have w1 : IntKind.u64.wrap n = (m : Int) := by rw [IntKind.wrap_u64]; omega
  simp only [h0, decide_false] at hW
  simp [lf38, h0, w1, ht, hW, iP, zN, freeze1, Rof_mu, Rof_fns]
end Go.Proofs.YtgbjjikaenlkmaaGreat

namespace Go.Proofs.YtgbjjikaenlkmaaGreat
open Go Go.Abs
def lf90 : LFunc := ⟨2,[.slot 0],.seq (.region [Oa 0 (.mov (.cst (.tight [])))]) (.seq (.region [Oa 1 (.call 113 [.cst (.p (.int .i64 1))]),Om 0 1]) (.ret))⟩
theorem low90 : zf Tryz.prog gl0 90 = some lf90 := Go.Abs.lowF (by kernel_rfl)
def lf69 : LFunc := ⟨44,[.slot 2],.seq (.region [Oa 1 (.newv 3 33 (Tm 0)),Oa 2 (.mov Kg)]) (.seq (.seq (.region [Oz 3 1 1,Oq 4 1 false 3,Oa 5 (.call 105 [Tm 4]),Oa 6 (.un .not (Tm 5)),Om 7 6,Od 8 7 (.fadr 2 (Tm 1)),Od 9 7 (.load 1 false (Tm 8)),Od 10 7 (.call 105 [Tm 9]),Od 11 7 (.un .not (Tm 10)),Ou 12 7 11,Om 13 12,Od 14 13 (.fadr 2 (Tm 1)),Od 15 13 (.load 1 false (Tm 14)),Od 16 13 (.len (Tm 15)),Od 17 13 (.bin .eql (Tm 16) (Kz 0)),Ou 18 13 17,Om 19 18,Od 20 19 (.fadr 0 (Tm 1)),Od 21 19 (.load 1 false (Tm 20)),Oo 22 19 21,Oc 23 22 (.fadr 1 (Tm 1)),Oc 24 22 (.load 1 false (Tm 23)),Oc 25 22 (.len (Tm 24)),Oc 26 22 (.bin .eql (Tm 25) (Kz 0)),Od 27 19 (.pick (Tm 22) (Tm 26) Kg),Ou 28 19 27]) (.cond (Tm 28) (.seq (.region [Oa 2 (.mov Kg)]) (.ret)) (.skip))) (.seq (.regionD [Oz 29 2 1,Oq 30 1 false 29,Oa 31 (.call 90 []),Oa 32 (.call 106 [Tm 30,Tm 31]),Oa 33 (.bin .eql (Tm 32) (Kz 0)),Om 34 33,Od 35 34 (.fadr 1 (Tm 1)),Od 36 34 (.load 1 false (Tm 35)),Od 37 34 (.fadr 2 (Tm 1)),Od 38 34 (.load 1 false (Tm 37)),Od 39 34 (.call 107 [Tm 36,Tm 38]),Od 40 34 (.call 90 []),Od 41 34 (.call 106 [Tm 39,Tm 40]),Od 42 34 (.bin .eql (Tm 41) (Kz 0)),Ou 43 34 42,Om 2 43]) (.ret)))⟩
theorem low69 : zf Tryz.prog gl0 69 = some lf69 := Go.Abs.lowF (by kernel_rfl)
def lf53 : LFunc := ⟨3,[.cell 0 3 true],.seq (.region [Oa 0 (.newv 3 33 (.cst Zr))]) (.seq (.region [Oa 1 (.call 90 []),Oa 2 (.build Zr [(2,1,(Tm 1))]),Oy 3 0 2]) (.ret))⟩
theorem low53 : zf Tryz.prog gl0 53 = some lf53 := Go.Abs.lowF (by kernel_rfl)
def lf111 : LFunc := ⟨8,[.cell 2 2 true],.seq (.region [Oa 1 (.newv 3 33 (Tm 0)),Oa 2 (.newv 2 113 (.cst (.agg [.p (.bool false),.tight []])))]) (.seq (.region [Oz 3 0 1,Oq 4 1 false 3,Oz 5 1 1,Oq 6 1 false 5,Oa 7 (.build (.agg [.p (.bool false),.tight []]) [(0,1,(Tm 4)),(1,1,(Tm 6))]),Oy 2 2 7]) (.ret))⟩
theorem low111 : zf Tryz.prog gl0 111 = some lf111 := Go.Abs.lowF (by kernel_rfl)
def lf116 : LFunc := ⟨6,[.cell 2 2 true],.seq (.region [Oa 1 (.newv 3 33 (Tm 0)),Oa 2 (.newv 2 113 (.cst (.agg [.p (.bool false),.tight []])))]) (.seq (.region [Oz 3 2 1,Oq 4 1 false 3,Oa 5 (.build (.agg [.p (.bool false),.tight []]) [(1,1,(Tm 4))]),Oy 2 2 5]) (.ret))⟩
theorem low116 : zf Tryz.prog gl0 116 = some lf116 := Go.Abs.lowF (by kernel_rfl)
def lf108 : LFunc := ⟨48,[.cell 6 3 true,.slot 7],.seq (.region [Oa 6 (.newv 3 33 (.cst Zr)),Oa 7 (.mov (Kz 0))]) (.seq (.seq (.region [Om 9 1,Om 10 2,Oa 11 (.call 107 [Tm 9,Tm 10]),Om 8 11]) (.seq (.region [Om 12 8,Oa 13 (.call 90 []),Oa 14 (.call 106 [Tm 12,Tm 13]),Oa 15 (.bin .neq (Tm 14) (Kz 0))]) (.cond (Tm 15) (.seq (.region [Om 17 1,Om 18 8,Oa 19 (.call 137 [Tm 17,Tm 18]),Om 16 19,Ox 20 16 0,Ox 21 16 1,Om 1 20]) (.region [Om 23 2,Om 24 8,Oa 25 (.call 137 [Tm 23,Tm 24]),Om 22 25,Ox 26 22 0,Ox 27 22 1,Om 2 26])) (.skip)))) (.seq (.seq (.region [Om 28 1,Oa 29 (.len (Tm 28)),Oa 30 (.bin .gtr (Tm 29) (Kz 64)),Om 31 30,Oo 32 31 2,Od 33 31 (.len (Tm 32)),Od 34 31 (.bin .gtr (Tm 33) (Kz 64)),Ou 35 31 34]) (.cond (Tm 35) (.seq (.region [Oa 36 (.build Zr []),Oy 3 6 36,Oa 7 (.mov (Kz 4))]) (.ret)) (.skip))) (.seq (.region [Om 37 0,Om 38 37,Oj 39 38 1,Oc 40 38 (.len (Tm 39)),Oc 41 38 (.bin .gtr (Tm 40) (Kz 0)),Ot 42 38 41,Om 43 1,Oa 44 (.call 117 [Tm 43]),Om 45 2,Oa 46 (.call 117 [Tm 45]),Oa 47 (.build Zr [(0,1,(Tm 42)),(1,1,(Tm 44)),(2,1,(Tm 46))]),Oy 3 6 47,Oa 7 (.mov (Kz 0))]) (.ret))))⟩
theorem low108 : zf Tryz.prog gl0 108 = some lf108 := Go.Abs.lowF (by kernel_rfl)
def lf72 : LFunc := ⟨33,[.cell 4 3 true,.slot 5],.seq (.region [Oa 2 (.newv 2 113 (Tm 0)),Oa 3 (.newv 2 113 (Tm 1)),Oa 4 (.newv 3 33 (.cst Zr)),Oa 5 (.mov (Kz 0))]) (.seq (.seq (.region [Oq 6 2 true 2,Oa 7 (.call 112 [Tm 6]),Oa 8 (.un .not (Tm 7)),Om 9 8,Od 10 9 (.load 2 true (Tm 3)),Od 11 9 (.call 112 [Tm 10]),Od 12 9 (.un .not (Tm 11)),Ou 13 9 12,Om 14 13,Od 15 14 (.fadr 1 (Tm 3)),Od 16 14 (.load 1 false (Tm 15)),Od 17 14 (.len (Tm 16)),Od 18 14 (.bin .eql (Tm 17) (Kz 0)),Ou 19 14 18]) (.cond (Tm 19) (.seq (.region [Oa 20 (.build Zr []),Oy 3 4 20,Oa 5 (.mov (Kz 1))]) (.ret)) (.skip))) (.seq (.region [Oz 21 0 2,Oq 22 1 false 21,Oz 23 0 3,Oq 24 1 false 23,Oa 25 (.eqB true (Tm 22) (Tm 24)),Oz 26 1 2,Oq 27 1 false 26,Oz 28 1 3,Oq 29 1 false 28,Oa 30 (.call 108 [Tm 25,Tm 27,Tm 29]),Ox 31 30 0,Ox 32 30 1,Oy 3 4 31,Om 5 32]) (.ret)))⟩
theorem low72 : zf Tryz.prog gl0 72 = some lf72 := Go.Abs.lowF (by kernel_rfl)
def lf43 : LFunc := ⟨19,[.cell 4 3 true],.seq (.region [Oa 4 (.newv 3 33 (.cst Zr))]) (.seq (.seq (.region [Om 7 1,Oa 8 (.bin .eql (Tm 7) (Kz 0))]) (.cond (Tm 8) (.seq (.region [Oa 9 (.call 53 []),Oy 3 4 9]) (.ret)) (.skip))) (.seq (.region [Om 11 0,Oa 12 (.call 73 [Tm 11]),Om 13 1,Oa 14 (.call 73 [Tm 13]),Oa 15 (.call 72 [Tm 12,Tm 14]),Om 10 15,Ox 16 10 0,Ox 17 10 1,Oa 5 (.newv 3 33 (.cst Zr)),Oy 3 5 16,Om 6 17]) (.seq (.region [Oq 18 3 true 5,Oy 3 4 18]) (.ret))))⟩
theorem low43 : zf Tryz.prog gl0 43 = some lf43 := Go.Abs.lowF (by kernel_rfl)
def lf71 : LFunc := ⟨9,[.slot 2],.seq (.region [Oa 1 (.newv 3 33 (Tm 0)),Oa 2 (.mov (Kz 0))]) (.seq (.seq (.region [Oq 3 3 true 1,Oa 4 (.call 69 [Tm 3]),Oa 5 (.un .not (Tm 4))]) (.cond (Tm 5) (.seq (.region [Oa 2 (.mov (Kz 0))]) (.ret)) (.skip))) (.seq (.region [Oq 6 3 true 1,Oa 7 (.call 111 [Tm 6]),Oa 8 (.call 110 [Tm 7]),Om 2 8]) (.ret)))⟩
theorem low71 : zf Tryz.prog gl0 71 = some lf71 := Go.Abs.lowF (by kernel_rfl)
def lf118 : LFunc := ⟨23,[.cell 2 3 true],.seq (.region [Oa 1 (.newv 3 33 (Tm 0)),Oa 2 (.newv 3 33 (.cst Zr))]) (.seq (.seq (.region [Oq 3 3 true 1,Oa 4 (.call 69 [Tm 3]),Oa 5 (.un .not (Tm 4))]) (.cond (Tm 5) (.seq (.region [Oa 6 (.build Zr []),Oy 3 2 6]) (.ret)) (.skip))) (.seq (.regionW [(Oz 7 0 1,.f),(Oq 8 1 false 7,.f),(Oa 9 (.un .not (Tm 8)),.f),(Om 10 9,.f),(Oc 11 10 (.fadr 1 (Tm 1)),.s),(Oc 12 10 (.load 1 false (Tm 11)),.s),(Oc 13 10 (.len (Tm 12)),.s),(Oc 14 10 (.bin .gtr (Tm 13) (Kz 0)),.f),(Ot 15 10 14,.f),(Oz 16 1 1,.f),(Oq 17 1 false 16,.f),(Oa 18 (.call 117 [Tm 17]),.s),(Oz 19 2 1,.s),(Oq 20 1 false 19,.s),(Oa 21 (.call 117 [Tm 20]),.s),(Oa 22 (.build Zr [(0,1,(Tm 15)),(1,1,(Tm 18)),(2,1,(Tm 21))]),.f),(Oy 3 2 22,.f)]) (.ret)))⟩
theorem low118 : zf Tryz.prog gl0 118 = some lf118 := Go.Abs.lowF (by kernel_rfl)
def lf74 : LFunc := ⟨39,[.cell 4 3 true,.slot 5],.seq (.region [Oa 2 (.newv 3 33 (Tm 0)),Oa 3 (.newv 3 33 (Tm 1)),Oa 4 (.newv 3 33 (.cst Zr)),Oa 5 (.mov (Kz 0))]) (.seq (.seq (.region [Oq 7 3 true 2,Oa 8 (.call 69 [Tm 7]),Oa 9 (.un .not (Tm 8)),Om 10 9,Od 11 10 (.load 3 true (Tm 3)),Od 12 10 (.call 69 [Tm 11]),Od 13 10 (.un .not (Tm 12)),Ou 14 10 13]) (.cond (Tm 14) (.seq (.region [Oa 15 (.build Zr []),Oy 3 4 15,Oa 5 (.mov (Kz 1))]) (.ret)) (.skip))) (.seq (.regionW [(Oq 16 3 true 2,.s),(Oa 17 (.call 111 [Tm 16]),.t),(Oq 18 3 true 3,.s),(Oa 19 (.call 116 [Tm 18]),.t),(Oa 20 (.call 115 [Tm 17,Tm 19]),.t),(Oq 21 3 true 3,.s),(Oa 22 (.call 111 [Tm 21]),.t),(Oq 23 3 true 2,.s),(Oa 24 (.call 116 [Tm 23]),.t),(Oa 25 (.call 115 [Tm 22,Tm 24]),.t),(Oa 26 (.call 114 [Tm 20,Tm 25]),.t),(Oa 6 (.newv 2 113 (.cst (.agg [.p (.bool false),.tight []]))),.s),(Oy 2 6 26,.f)]) (.seq (.regionW [(Oz 27 0 6,.s),(Oq 28 1 false 27,.s),(Oz 29 1 6,.s),(Oq 30 1 false 29,.s),(Oz 31 2 2,.f),(Oq 32 1 false 31,.f),(Oz 33 2 3,.f),(Oq 34 1 false 33,.f),(Oa 35 (.call 109 [Tm 32,Tm 34]),.s),(Oa 36 (.call 108 [Tm 28,Tm 30,Tm 35]),.f),(Ox 37 36 0,.f),(Ox 38 36 1,.f),(Oy 3 4 37,.f),(Om 5 38,.f)]) (.ret))))⟩
theorem low74 : zf Tryz.prog gl0 74 = some lf74 := Go.Abs.lowF (by kernel_rfl)
def lf70 : LFunc := ⟨33,[.cell 4 3 true,.slot 5],.seq (.region [Oa 2 (.newv 3 33 (Tm 0)),Oa 3 (.newv 3 33 (Tm 1)),Oa 4 (.newv 3 33 (.cst Zr)),Oa 5 (.mov (Kz 0))]) (.seq (.seq (.region [Oq 6 3 true 2,Oa 7 (.call 69 [Tm 6]),Oa 8 (.un .not (Tm 7)),Om 9 8,Od 10 9 (.load 3 true (Tm 3)),Od 11 9 (.call 69 [Tm 10]),Od 12 9 (.un .not (Tm 11)),Ou 13 9 12]) (.cond (Tm 13) (.seq (.region [Oa 14 (.build Zr []),Oy 3 4 14,Oa 5 (.mov (Kz 1))]) (.ret)) (.skip))) (.seq (.regionW [(Oz 15 0 2,.s),(Oq 16 1 false 15,.s),(Oz 17 0 3,.s),(Oq 18 1 false 17,.s),(Oa 19 (.eqB true (Tm 16) (Tm 18)),.f),(Oz 20 1 2,.f),(Oq 21 1 false 20,.f),(Oz 22 1 3,.f),(Oq 23 1 false 22,.f),(Oa 24 (.call 109 [Tm 21,Tm 23]),.s),(Oz 25 2 2,.s),(Oq 26 1 false 25,.s),(Oz 27 2 3,.s),(Oq 28 1 false 27,.s),(Oa 29 (.call 109 [Tm 26,Tm 28]),.s),(Oa 30 (.call 108 [Tm 19,Tm 24,Tm 29]),.f),(Ox 31 30 0,.f),(Ox 32 30 1,.f),(Oy 3 4 31,.f),(Om 5 32,.f)]) (.ret)))⟩
theorem low70 : zf Tryz.prog gl0 70 = some lf70 := Go.Abs.lowF (by kernel_rfl)
def lf79 : LFunc := ⟨39,[.cell 4 3 true,.slot 5],.seq (.region [Oa 2 (.newv 3 33 (Tm 0)),Oa 3 (.newv 3 33 (Tm 1)),Oa 4 (.newv 3 33 (.cst Zr)),Oa 5 (.mov (Kz 0))]) (.seq (.seq (.region [Oq 6 3 true 2,Oa 7 (.call 69 [Tm 6]),Oa 8 (.un .not (Tm 7)),Om 9 8,Od 10 9 (.load 3 true (Tm 3)),Od 11 9 (.call 69 [Tm 10]),Od 12 9 (.un .not (Tm 11)),Ou 13 9 12,Om 14 13,Od 15 14 (.fadr 1 (Tm 3)),Od 16 14 (.load 1 false (Tm 15)),Od 17 14 (.len (Tm 16)),Od 18 14 (.bin .eql (Tm 17) (Kz 0)),Ou 19 14 18]) (.cond (Tm 19) (.seq (.region [Oa 20 (.build Zr []),Oy 3 4 20,Oa 5 (.mov (Kz 1))]) (.ret)) (.skip))) (.seq (.regionW [(Oz 21 0 2,.s),(Oq 22 1 false 21,.s),(Oz 23 0 3,.s),(Oq 24 1 false 23,.s),(Oa 25 (.eqB true (Tm 22) (Tm 24)),.f),(Oz 26 1 2,.f),(Oq 27 1 false 26,.f),(Oz 28 2 3,.f),(Oq 29 1 false 28,.f),(Oa 30 (.call 109 [Tm 27,Tm 29]),.s),(Oz 31 2 2,.s),(Oq 32 1 false 31,.s),(Oz 33 1 3,.s),(Oq 34 1 false 33,.s),(Oa 35 (.call 109 [Tm 32,Tm 34]),.s),(Oa 36 (.call 108 [Tm 25,Tm 30,Tm 35]),.f),(Ox 37 36 0,.f),(Ox 38 36 1,.f),(Oy 3 4 37,.f),(Om 5 38,.f)]) (.ret)))⟩
theorem low79 : zf Tryz.prog gl0 79 = some lf79 := Go.Abs.lowF (by kernel_rfl)
end Go.Proofs.YtgbjjikaenlkmaaGreat

namespace Go.Proofs.YtgbjjikaenlkmaaGreat
open Go Go.Abs Go.Limbs
set_option maxRecDepth 20000
structure Fr where
 s : Bool
 n : List Nat
 d : List Nat
def Fr.wf (x : Fr) : Prop := Wf x.n ∧ Wf x.d
def Fr.enc (x : Fr) : PVal := .agg [.bool x.s, .lst (x.n.map u64), .lst (x.d.map u64)]
def dS : PVal → Option Fr
 | .agg [.bool s, .lst xs, .lst ys] => match jJ xs, jJ ys with | some l, some m => some ⟨s, l, m⟩ | _, _ => none
 | _ => none
theorem jf {x : Fr} (h : x.wf) : dS x.enc = some x := by simp only [dS, Fr.enc, zX h.1, zX h.2]
theorem vn {v : PVal} {x : Fr} (h : dS v = some x) : v = x.enc ∧ x.wf := by
 unfold dS at h
 split at h
 ·rename_i s xs ys
  split at h
  ·rename_i l m hl hm
   cases h
   obtain ⟨rfl, wl⟩ := zI hl
   obtain ⟨rfl, wm⟩ := zI hm
   exact ⟨rfl, wl, wm⟩
  ·cases h
 ·cases h
def Fr.ok (x : Fr) : Bool := okL x.n && okL x.d && decide (val x.d ≠ 0) && (!x.s || decide (val x.n ≠ 0)) && (Nat.gcd (val x.n) (val x.d) == 1)
def Fr.q (x : Fr) : Rat := mkRat (zOf x.s (val x.n)) (val x.d)
def ofQ (q : Rat) : Fr := ⟨decide (q.num < 0), zc q.num.natAbs, zc q.den⟩
def zF : Fr := ⟨false, [], []⟩
def Sm (k : Nat) (q : Rat) : Prop := len q.num.natAbs ≤ k ∧ len q.den ≤ k
instance (k : Nat) (q : Rat) : Decidable (Sm k q) := inferInstanceAs (Decidable (_ ∧ _))
theorem wS (q : Rat) : (ofQ q).wf := ⟨zC _, zC _⟩
theorem br : zF.wf := ⟨Wf.nil, Wf.nil⟩
theorem vG (q : Rat) : (ofQ q).q = q := by
 unfold Fr.q ofQ
 simp only [zw, vB, Rat.mkRat_self]
theorem ofQ_inj {p q : Rat} (h : ofQ p = ofQ q) : p = q := by rw [← vG p, h, vG]
theorem eI {s : Bool} {a : Nat} (h : s = true → a ≠ 0) : s = decide (zOf s a < 0) := by
 cases s with
 | false => simp [zOf]
 | true => have := h rfl; simp [zOf]; omega
theorem Fr.ok_of {x : Fr} (h : x.ok = true) : ∃ q : Rat, Sm 64 q ∧ x = ofQ q := by
 obtain ⟨s, n, d⟩ := x
 unfold Fr.ok at h
 simp only [Bool.and_eq_true, Bool.or_eq_true, Bool.not_eq_true', decide_eq_true_eq, beq_iff_eq] at h
 obtain ⟨⟨⟨⟨h1, h2⟩, h3⟩, h4⟩, h5⟩ := h
 obtain ⟨a, rfl, ha⟩ := uB h1
 obtain ⟨b, rfl, hb⟩ := uB h2
 rw [zw] at h3 h4
 rw [zw, zw] at h5
 have hs : s = true → a ≠ 0 := fun e => by
  rcases h4 with h | h
  ·rw [e] at h; cases h
  ·exact h
 refine ⟨⟨zOf s a, b, h3, by rw [vw]; exact h5⟩, ⟨by show len (zOf s a).natAbs ≤ 64; rw [vw]; exact ha, hb⟩, ?_⟩
 unfold ofQ
 simp only [vw]
 rw [← eI hs]
theorem vH {q : Rat} (h : Sm 64 q) : (ofQ q).ok = true := by
 unfold Fr.ok ofQ
 simp only [zw, mW h.1, mW h.2, Bool.true_and, Bool.and_true, Bool.and_eq_true, Bool.or_eq_true, Bool.not_eq_true', decide_eq_true_eq, decide_eq_false_iff_not, beq_iff_eq]
 refine ⟨⟨q.den_nz, ?_⟩, q.reduced⟩
 by_cases hn : q.num < 0
 ·exact .inr (by omega)
 ·exact .inl hn
theorem mk_num (s : Bool) (a : Nat) {b : Nat} (hb : b ≠ 0) : (mkRat (zOf s a) b).num = zOf s (a / Nat.gcd a b) := by
 rw [Rat.num_mkRat, if_neg hb, vw, Nat.gcd_comm]
 have hd : ((Nat.gcd a b : Nat) : Int) ∣ (a : Int) := Int.natCast_dvd_natCast.2 (Nat.gcd_dvd_left a b)
 cases s with
 | false => simp [zOf]
 | true =>
  simp only [zOf, if_true]
  rw [Int.neg_ediv_of_dvd hd, Int.natCast_ediv]
theorem mk_den (s : Bool) (a : Nat) {b : Nat} (hb : b ≠ 0) : (mkRat (zOf s a) b).den = b / Nat.gcd a b := by
 rw [Rat.den_mkRat, if_neg hb, vw, Nat.gcd_comm]
theorem ofQ_mk (s : Bool) (a : Nat) {b : Nat} (hb : b ≠ 0) : ofQ (mkRat (zOf s a) b) = ⟨s && decide (0 < (zc (a / Nat.gcd a b)).length), zc (a / Nat.gcd a b), zc (b / Nat.gcd a b)⟩ := by
 unfold ofQ
 rw [mk_num s a hb, mk_den s a hb, vw]
 congr 1
 obtain ⟨m, hm⟩ : ∃ m, m = a / Nat.gcd a b := ⟨_, rfl⟩
 rw [← hm]
 by_cases h : m = 0
 ·subst h
  cases s <;> simp [zOf, zy]
 ·have hl : 0 < (zc m).length := by
   have : (zc m).length ≠ 0 := fun e => h (qd.1 e)
   omega
  rw [decide_eq_true hl, Bool.and_true, ← eI fun _ => h]
def qG (q : Rat) : Fr × Nat := if Sm 64 q then (ofQ q, 0) else (zF, 4)
theorem bZ {q : Rat} (h : Sm 64 q) : qG q = (ofQ q, 0) := if_pos h
theorem p9 (q : Rat) : (qG q).1.wf := by
 unfold qG
 split
 ·exact wS q
 ·exact br
theorem heldQ_mk (s : Bool) (a : Nat) {b : Nat} (hb : b ≠ 0) : qG (mkRat (zOf s a) b) = if len (a / Nat.gcd a b) ≤ 64 ∧ len (b / Nat.gcd a b) ≤ 64 then (⟨s && decide (0 < (zc (a / Nat.gcd a b)).length), zc (a / Nat.gcd a b), zc (b / Nat.gcd a b)⟩, 0) else (zF, 4) := by
 have e : Sm 64 (mkRat (zOf s a) b) ↔ len (a / Nat.gcd a b) ≤ 64 ∧ len (b / Nat.gcd a b) ≤ 64 := by
  unfold Sm
  rw [mk_num s a hb, mk_den s a hb, vw]
 unfold qG
 by_cases h : Sm 64 (mkRat (zOf s a) b)
 ·rw [if_pos h, if_pos (e.1 h), ofQ_mk s a hb]
 ·rw [if_neg h, if_neg fun hh => h (e.2 hh)]
theorem add_mk (p q : Rat) : mkRat (p.num * q.den + q.num * p.den) (p.den * q.den) = p + q := by
 have := Rat.mkRat_add_mkRat p.num q.num p.den_nz q.den_nz
 rw [Rat.mkRat_self, Rat.mkRat_self] at this
 exact this.symm
theorem mul_mk (p q : Rat) : mkRat (p.num * q.num) (p.den * q.den) = p * q := by
 have := Rat.mkRat_mul_mkRat p.num q.num p.den q.den
 rw [Rat.mkRat_self, Rat.mkRat_self] at this
 exact this.symm
theorem div_of_mul {x p q : Rat} (hq : q ≠ 0) (h : x * q = p) : x = p / q := by
 rw [← h, Rat.div_def, Rat.mul_assoc, Rat.mul_inv_cancel q hq, Rat.mul_one]
theorem quo_mk (p : Rat) {q : Rat} (hq : q ≠ 0) : mkRat (zOf (decide (p.num < 0) != decide (q.num < 0)) (p.num.natAbs * q.den)) (p.den * q.num.natAbs) = p / q := by
 have hn : q.num ≠ 0 := fun e => hq (Rat.num_eq_zero.1 e)
 refine div_of_mul hq ?_
 have h := Rat.mkRat_mul_mkRat (zOf (decide (p.num < 0) != decide (q.num < 0)) (p.num.natAbs * q.den)) q.num (p.den * q.num.natAbs) q.den
 rw [Rat.mkRat_self] at h
 rw [h]
 conv => rhs; rw [← Rat.mkRat_self p]
 have hD : p.den * q.num.natAbs * q.den ≠ 0 := Nat.mul_ne_zero (Nat.mul_ne_zero p.den_nz (by omega)) q.den_nz
 rw [Rat.mkRat_eq_iff hD p.den_nz]
 have e1 := vB p.num
 have e2 := vB q.num
 obtain ⟨a, ha⟩ : ∃ a, a = p.num.natAbs := ⟨_, rfl⟩
 obtain ⟨b, hb⟩ : ∃ b, b = q.num.natAbs := ⟨_, rfl⟩
 obtain ⟨s, hs⟩ : ∃ s, s = decide (p.num < 0) := ⟨_, rfl⟩
 obtain ⟨t, ht⟩ : ∃ t, t = decide (q.num < 0) := ⟨_, rfl⟩
 rw [← ha, ← hs] at e1
 rw [← hb, ← ht] at e2
 rw [← ha, ← hb, ← hs, ← ht, ← e1, ← e2]
 generalize q.den = u
 generalize p.den = v
 clear e1 e2 ha hb hs ht
 cases s <;> cases t <;> simp [zOf] <;> grind
theorem ofQ_neg (q : Rat) : ofQ (-q) = ⟨!decide (q.num < 0) && decide (0 < (zc q.num.natAbs).length), zc q.num.natAbs, zc q.den⟩ := by
 unfold ofQ
 rw [Rat.neg_num, Rat.neg_den, Int.natAbs_neg]
 congr 1
 by_cases h : q.num = 0
 ·rw [h]; simp [zy]
 ·have hl : 0 < (zc q.num.natAbs).length := by
   have : (zc q.num.natAbs).length ≠ 0 := fun e => h (by have := qd.1 e; omega)
   omega
  rw [decide_eq_true hl, Bool.and_true]
  by_cases h2 : q.num < 0
  ·simp [h2]; omega
  ·simp [h2]; omega
theorem Sm_neg {k : Nat} {q : Rat} (h : Sm k q) : Sm k (-q) := by
 unfold Sm at *
 rw [Rat.neg_num, Rat.neg_den, Int.natAbs_neg]
 exact h
def yu (p q : Rat) : Int := uc (p.num * q.den) (q.num * p.den)
theorem pT {p q : Rat} (h : p < q) : yu p q = -1 := by
 unfold yu uc
 rw [if_pos ((Rat.lt_iff p q).1 h)]
theorem cmpQ_eq (p : Rat) : yu p p = 0 := by
 unfold yu uc
 rw [if_neg (by omega), if_pos rfl]
theorem pU {p q : Rat} (h : q < p) : yu p q = 1 := by
 have h' := (Rat.lt_iff q p).1 h
 unfold yu uc
 rw [if_neg (by omega), if_neg (by omega)]
theorem fN (p q : Rat) : p < q ∨ p = q ∨ q < p := by
 by_cases h : q ≤ p
 ·by_cases h2 : p ≤ q
  ·exact .inr (.inl (Rat.le_antisymm h2 h))
  ·exact .inr (.inr (Rat.not_le.1 h2))
 ·exact .inl (Rat.not_le.1 h)
theorem lt_irr (p : Rat) : ¬ p < p := fun h => absurd ((Rat.lt_iff p p).1 h) (by omega)
theorem dt {p q : Rat} : yu p q = 0 ↔ p = q := by
 rcases fN p q with h | h | h
 ·rw [pT h]; simp; rintro rfl; exact lt_irr _ h
 ·subst h; rw [cmpQ_eq]; simp
 ·rw [pU h]; simp; rintro rfl; exact lt_irr _ h
theorem cmpQ_case (p q : Rat) : yu p q = -1 ∨ yu p q = 0 ∨ yu p q = 1 := by
 rcases fN p q with h | h | h
 ·exact .inl (pT h)
 ·subst h; exact .inr (.inl (cmpQ_eq p))
 ·exact .inr (.inr (pU h))
def v9 (x y : Fr) : Fr × Nat := if x.ok && y.ok then qG (x.q + y.q) else (zF, 1)
def vZ (x y : Fr) : Fr × Nat := if x.ok && y.ok then qG (x.q * y.q) else (zF, 1)
def cW (x y : Fr) : Fr × Nat := if x.ok && y.ok && decide (y.q ≠ 0) then qG (x.q / y.q) else (zF, 1)
def cmpF (x y : Fr) : Int := if x.ok && y.ok then yu x.q y.q else 0
def zW (x : Fr) : Int := if x.ok then yu x.q 0 else 0
def yX (x : Fr) : Fr := if x.ok then ofQ (-x.q) else zF
theorem tj {p q : Rat} (hp : Sm 64 p) (hq : Sm 64 q) : v9 (ofQ p) (ofQ q) = qG (p + q) := by unfold v9; rw [vH hp, vH hq, vG, vG]; rfl
theorem aM {p q : Rat} (hp : Sm 64 p) (hq : Sm 64 q) : vZ (ofQ p) (ofQ q) = qG (p * q) := by unfold vZ; rw [vH hp, vH hq, vG, vG]; rfl
theorem quoF_num {p q : Rat} (hp : Sm 64 p) (hq : Sm 64 q) (h0 : q ≠ 0) : cW (ofQ p) (ofQ q) = qG (p / q) := by unfold cW; rw [vH hp, vH hq, vG, vG]; simp [h0]
theorem cmpF_num {p q : Rat} (hp : Sm 64 p) (hq : Sm 64 q) : cmpF (ofQ p) (ofQ q) = yu p q := by unfold cmpF; rw [vH hp, vH hq, vG, vG]; rfl
theorem yh {p : Rat} (hp : Sm 64 p) : zW (ofQ p) = yu p 0 := by unfold zW; rw [vH hp, vG]; rfl
theorem gO {p : Rat} (hp : Sm 64 p) : yX (ofQ p) = ofQ (-p) := by unfold yX; rw [vH hp, vG]; rfl
theorem d9 (x y : Fr) : (v9 x y).1.wf := by unfold v9; split; exact p9 _; exact br
theorem dZ (x y : Fr) : (vZ x y).1.wf := by unfold vZ; split; exact p9 _; exact br
theorem wf_quoF (x y : Fr) : (cW x y).1.wf := by unfold cW; split; exact p9 _; exact br
theorem x8 (x : Fr) : (yX x).wf := by unfold yX; split; exact wS _; exact br
def zU (p : Fr × Nat) : PVal := .tup [p.1.enc, .int .i64 p.2]
def wN (x : Fr) : PVal := .bool x.ok
def f1 (g : Fr → PVal) : List PVal → Option PVal
 | [a] => match dS a with | some x => some (g x) | none => none
 | _ => none
def f2 (g : Fr → Fr → PVal) : List PVal → Option PVal
 | [a, b] => match dS a, dS b with | some x, some y => some (g x y) | _, _ => none
 | _ => none
theorem j8 {g : Fr → PVal} {x : Fr} (h : x.wf) : f1 g [x.enc] = some (g x) := by simp only [f1, jf h]
theorem pe {g : Fr → Fr → PVal} {x y : Fr} (hx : x.wf) (hy : y.wf) : f2 g [x.enc, y.enc] = some (g x y) := by simp only [f2, jf hx, jf hy]
theorem ub {g : Fr → PVal} {args : List PVal} {z : PVal} (h : f1 g args = some z) : ∃ x : Fr, x.wf ∧ args = [x.enc] ∧ z = g x := by
 unfold f1 at h
 split at h
 ·split at h
  ·rename_i x hx
   cases h
   obtain ⟨rfl, w⟩ := vn hx
   exact ⟨x, w, rfl, rfl⟩
  ·cases h
 ·cases h
theorem uT {g : Fr → Fr → PVal} {args : List PVal} {z : PVal} (h : f2 g args = some z) : ∃ x y : Fr, x.wf ∧ y.wf ∧ args = [x.enc, y.enc] ∧ z = g x y := by
 unfold f2 at h
 split at h
 ·split at h
  ·rename_i x y hx hy
   cases h
   obtain ⟨rfl, wx⟩ := vn hx
   obtain ⟨rfl, wy⟩ := vn hy
   exact ⟨x, y, wx, wy, rfl, rfl⟩
  ·cases h
 ·cases h
theorem Sm_mono {j k : Nat} {q : Rat} (h : Sm j q) (hjk : j ≤ k) : Sm k q := ⟨Nat.le_trans h.1 hjk, Nat.le_trans h.2 hjk⟩
theorem Sm_mk {k : Nat} {z : Int} {d : Nat} (hz : len z.natAbs ≤ k) (hd : len d ≤ k) (h0 : d ≠ 0) : Sm k (mkRat z d) := by
 have h := vB z
 rw [← h]
 unfold Sm
 rw [mk_num _ _ h0, mk_den _ _ h0, vw]
 exact ⟨Nat.le_trans (qq (Nat.div_le_self _ _)) hz, Nat.le_trans (qq (Nat.div_le_self _ _)) hd⟩
theorem gS : len 1 = 1 := by rw [len, kG (by decide) (by decide)]; rfl
end Go.Proofs.YtgbjjikaenlkmaaGreat

namespace Go.Proofs.YtgbjjikaenlkmaaGreat
open Go Go.Abs Go.Limbs
variable {base : Prot}
set_option maxRecDepth 20000
attribute [local irreducible] vc
attribute [local simp] za zi freezeL fuel zk u64 au
theorem mZ : zc 1 = [1] := kG (by decide) (by decide)
theorem yZ (n : Nat) : (zc n).length = len n := rfl
theorem gT {n : Nat} (h : n ≠ 0) : ((len n : Int) == 0) = false := beq_false_of_ne (by have : len n ≠ 0 := fun e => h (qd.1 e); omega)
theorem aV {n : Nat} (h : n ≠ 0) : 0 < len n := by have : len n ≠ 0 := fun e => h (qd.1 e); omega
theorem mc {n : Nat} : (qm n 1 == 0) = decide (n = 1) := by
 unfold qm
 by_cases h : n < 1
 ·rw [if_pos h]; simp; omega
 ·rw [if_neg h]
  by_cases h2 : n = 1
  ·rw [if_pos h2]; simp [h2]
  ·rw [if_neg h2]; simp [h2]
theorem yL {n : Nat} (h : len n ≤ 100000) : qX [.lst ((zc n).map u64), .lst [.int .u64 1]] = some (.int .i64 (qm n 1)) := by
 have := jm (a := n) (b := 1) h (by rw [gS]; omega)
 rw [mZ] at this
 exact this
def mJ : List PVal → Option PVal
 | [] => some (.lst [.int .u64 1])
 | _ => none
theorem gD : mJ [] = some (.lst [.int .u64 1]) := rfl
def Tqo : Tab := Tab.none.with 113 (za sOf)
theorem Tqo_ok : TabOk Tryz.prog base Tqo := Tab.with_ok Tab.none_ok of_ok
theorem Tqo_mu (f : FuncId) (a : List AVal) (H : zb) : Tqo.mu f a H = none := (rfl)
theorem Tqo_fn : Tqo.fn 113 = za sOf := (rfl)
theorem sOf_one : sOf [.int .i64 1] = some (.lst [.int .u64 1]) := by
 have h : sOf [.int .i64 1] = some (.lst ((ofL 1).map u64)) := rfl
 rw [ofL_num (by decide) (by decide)] at h
 rw [h, show Int.natAbs 1 = 1 from rfl, mZ]
 rfl
theorem fP : zG Tryz.prog base 90 (za mJ) := by
 refine zd zB Tqo_ok ze low90 fun args z hs hf => ?_
 unfold mJ at hs
 split at hs
 case h_2 => cases hs
 cases hs
 refine ⟨by simp [lf90], ?_⟩
 have h1 := sOf_one
 simp [lf90, h1, Tqo_mu, Tqo_fn]
def kj : List PVal → Option PVal
 | [] => some (ofQ 0).enc
 | _ => none
theorem yK : kj [] = some (ofQ 0).enc := rfl
theorem aG : ofQ 0 = ⟨false, [], [1]⟩ := by
 unfold ofQ
 rw [Rat.zero_num, Rat.zero_den, mZ]
 simp [zy]
def Tq1 : Tab := Tab.none.with 90 (za mJ)
theorem Tq1_ok : TabOk Tryz.prog base Tq1 := Tab.with_ok Tab.none_ok fP
theorem Tq1_mu (f : FuncId) (a : List AVal) (H : zb) : Tq1.mu f a H = none := (rfl)
theorem Tq1_fn : Tq1.fn 90 = za mJ := (rfl)
theorem sq : zG Tryz.prog base 53 (za kj) := by
 refine zd zB Tq1_ok ze low53 fun args z hs hf => ?_
 unfold kj at hs
 split at hs
 case h_2 => cases hs
 cases hs
 refine ⟨by simp [lf53], ?_⟩
 have h1 := gD
 rw [aG]
 simp [lf53, h1, Fr.enc, Tq1_mu, Tq1_fn]
def numF (x : Fr) : PVal := iP x.s x.n
def denF (x : Fr) : PVal := iP false x.d
theorem qnum_ok : zG Tryz.prog base 111 (za (f1 numF)) := by
 refine zd zB Tab.none_ok ze low111 fun args z hs hf => ?_
 obtain ⟨x, wx, rfl, rfl⟩ := ub hs
 refine ⟨by simp [lf111], ?_⟩
 simp [lf111, Fr.enc, numF, iP]
theorem qden_ok : zG Tryz.prog base 116 (za (f1 denF)) := by
 refine zd zB Tab.none_ok ze low116 fun args z hs hf => ?_
 obtain ⟨x, wx, rfl, rfl⟩ := ub hs
 refine ⟨by simp [lf116], ?_⟩
 simp [lf116, Fr.enc, denF, iP]
def Tqv : Tab := (((Tab.none.with 90 (za mJ)).with 105 (za jl)).with 106 (za qX)).with 107 (za kY)
theorem Tqv_ok : TabOk Tryz.prog base Tqv := Tab.with_ok (Tab.with_ok (Tab.with_ok (Tab.with_ok Tab.none_ok fP) rn) bQ) nl
theorem ct (f : FuncId) (a : List AVal) (H : zb) : Tqv.mu f a H = none := (rfl)
theorem u0 : Tqv.fn 90 = za mJ ∧ Tqv.fn 105 = za jl ∧ Tqv.fn 106 = za qX ∧ Tqv.fn 107 = za kY := ⟨rfl, rfl, rfl, rfl⟩
theorem mR : zG Tryz.prog base 69 (za (f1 wN)) := by
 refine zd zB Tqv_ok ze low69 fun args z hs hf => ?_
 obtain ⟨x, wx, rfl, rfl⟩ := ub hs
 obtain ⟨s, n, d⟩ := x
 obtain ⟨wn, wd⟩ := wx
 simp only at wn wd
 refine ⟨by simp [lf69], ?_⟩
 have v1 := jz wn
 have v2 := jz wd
 have ho := gD
 simp only [Fr.enc, wN, Fr.ok]
 cases o1 : okL n with
 | false => rw [o1] at v1; simp [lf69, v1, ct, u0]
 | true =>
  rw [o1] at v1
  cases o2 : okL d with
  | false => rw [o2] at v2; simp [lf69, v1, v2, ct, u0]
  | true =>
   rw [o2] at v2
   obtain ⟨a, rfl, ha⟩ := uB o1
   obtain ⟨b, rfl, hb⟩ := uB o2
   rw [zw, zw]
   by_cases b0 : b = 0
   ·subst b0
    rw [zy] at v2 ⊢
    simp only [List.map_nil] at v2 ⊢
    simp [lf69, v1, v2, ct, u0]
   ·have lb := gT b0
    have c1 := yL (n := b) (by omega)
    have c2 := nL (a := a) (b := b) (by omega) (by omega)
    have hg : len (Nat.gcd a b) ≤ 100000 := Nat.le_trans (qq (Nat.gcd_le_right _ (Nat.pos_of_ne_zero b0))) (by omega)
    have c3 := yL hg
    have g1 : b = 1 → Nat.gcd a b = 1 := fun e => by rw [e, Nat.gcd_one_right]
    obtain ⟨g, hgg⟩ : ∃ g, g = Nat.gcd a b := ⟨_, rfl⟩
    rw [← hgg] at c2 c3 g1 ⊢
    have e1 := mc (n := b)
    have e2 := mc (n := g)
    obtain ⟨p, hp⟩ : ∃ p, p = qm b 1 := ⟨_, rfl⟩
    obtain ⟨r, hr⟩ : ∃ p, p = qm g 1 := ⟨_, rfl⟩
    rw [← hp] at c1 e1
    rw [← hr] at c3 e2
    have e2' : (r == 0) = (g == 1) := e2
    have hb0' : decide (b ≠ 0) = true := decide_eq_true b0
    rw [hb0']
    by_cases a0 : a = 0
    ·subst a0
     rw [zy] at v1 c2 ⊢
     simp only [List.map_nil] at v1 c2 ⊢
     cases s with
     | true => simp [lf69, v1, v2, yZ, lb, ct, u0]
     | false =>
      by_cases hb1 : b = 1
      ·rw [decide_eq_true hb1] at e1
       have hgb : (g == 1) = true := by rw [g1 hb1]; rfl
       rw [hgb]
       simp [lf69, v1, v2, yZ, lb, ho, c1, e1, ct, u0]
      ·rw [decide_eq_false hb1] at e1
       simp [lf69, v1, v2, yZ, lb, ho, c1, c2, c3, e1, e2', ct, u0]
    ·have la := gT a0
     by_cases hb1 : b = 1
     ·rw [decide_eq_true hb1] at e1
      have hgb : (g == 1) = true := by rw [g1 hb1]; rfl
      rw [hgb]
      cases s <;> simp [lf69, v1, v2, yZ, la, lb, ho, c1, e1, a0, ct, u0]
     ·rw [decide_eq_false hb1] at e1
      cases s <;> simp [lf69, v1, v2, yZ, la, lb, ho, c1, c2, c3, e1, e2', a0, ct, u0]
def eU : List PVal → Option PVal
 | [.bool s, .lst xs, .lst ys] => match vM xs, vM ys with | some a, some b => if b ≠ 0 then some (zU (qG (mkRat (zOf s a) b))) else none | _, _ => none
 | _ => none
theorem gF (s : Bool) {a b : Nat} (ha : len a ≤ 100000) (hb : len b ≤ 100000) (h0 : b ≠ 0) : eU [.bool s, .lst ((zc a).map u64), .lst ((zc b).map u64)] = some (zU (qG (mkRat (zOf s a) b))) := by
 simp only [eU, zM ha, zM hb]
 rw [if_pos h0]
def Tlo : Tab := ((((Tab.none.with 90 (za mJ)).with 137 (za gB)).with 106 (za qX)).with 107 (za kY)).with 117 (za vr)
theorem Tlo_ok : TabOk Tryz.prog base Tlo := Tab.with_ok (Tab.with_ok (Tab.with_ok (Tab.with_ok (Tab.with_ok Tab.none_ok fP) fO) bQ) nl) yv
theorem nv (f : FuncId) (a : List AVal) (H : zb) : Tlo.mu f a H = none := (rfl)
theorem cT : Tlo.fn 90 = za mJ ∧ Tlo.fn 137 = za gB ∧ Tlo.fn 106 = za qX ∧ Tlo.fn 107 = za kY ∧ Tlo.fn 117 = za vr := ⟨rfl, rfl, rfl, rfl, rfl⟩
theorem cmpI_ne {n : Nat} : (qm n 1 != 0) = !decide (n = 1) := by rw [← mc]; rfl
theorem qlow_ok : zG Tryz.prog base 108 (za eU) := by
 refine zd zB Tlo_ok ze low108 fun args z hs hf => ?_
 unfold eU at hs
 split at hs
 case h_2 => cases hs
 rename_i s xs ys
 split at hs
 case h_2 => cases hs
 rename_i a b ha hb
 split at hs
 case isFalse => cases hs
 rename_i h0
 obtain ⟨rfl, hla⟩ := zE ha
 obtain ⟨rfl, hlb⟩ := zE hb
 cases hs
 refine ⟨by simp [lf108], ?_⟩
 rw [heldQ_mk s a h0]
 have c2 := nL hla hlb
 have hgl : len (Nat.gcd a b) ≤ 100000 := Nat.le_trans (qq (Nat.gcd_le_right _ (Nat.pos_of_ne_zero h0))) hlb
 have hg0 : Nat.gcd a b ≠ 0 := fun e => h0 (Nat.gcd_eq_zero_iff.1 e).2
 have c3 := yL hgl
 have e2 := cmpI_ne (n := Nat.gcd a b)
 have ho := gD
 obtain ⟨g, hg⟩ : ∃ g, g = Nat.gcd a b := ⟨_, rfl⟩
 rw [← hg] at c2 c3 e2 hgl hg0 ⊢
 have q1 := mI hla hgl hg0
 have q2 := mI hlb hgl hg0
 obtain ⟨m, hm⟩ : ∃ m, m = a / g := ⟨_, rfl⟩
 obtain ⟨k, hk⟩ : ∃ k, k = b / g := ⟨_, rfl⟩
 have hml : len m ≤ 100000 := by rw [hm]; exact Nat.le_trans (qq (Nat.div_le_self _ _)) hla
 have hkl : len k ≤ 100000 := by rw [hk]; exact Nat.le_trans (qq (Nat.div_le_self _ _)) hlb
 have m1 := ko hml
 have m2 := ko hkl
 rw [← hm, ← hk]
 rw [← hm] at q1
 rw [← hk] at q2
 obtain ⟨r, hr⟩ : ∃ p, p = qm g 1 := ⟨_, rfl⟩
 rw [← hr] at c3 e2
 by_cases hg1 : g = 1
 ·have hma : m = a := by rw [hm, hg1, Nat.div_one]
  have hkb : k = b := by rw [hk, hg1, Nat.div_one]
  rw [hma] at m1 ⊢
  rw [hkb] at m2 ⊢
  rw [decide_eq_true hg1] at e2
  by_cases h1 : len a ≤ 64
  ·have h1' : ¬ (64 : Int) < len a := by omega
   by_cases h2 : len b ≤ 64
   ·have h2' : ¬ (64 : Int) < len b := by omega
    cases s <;> simp [lf108, yZ, ho, c2, c3, e2, m1, m2, h1, h1', h2, h2', zU, Fr.enc, nv, cT] <;> exact decide_eq_decide.2 Iff.rfl
   ·have h2' : (64 : Int) < len b := by omega
    simp [lf108, yZ, ho, c2, c3, e2, h1, h1', h2, h2', zU, zF, Fr.enc, nv, cT]
  ·have h1' : (64 : Int) < len a := by omega
   simp [lf108, yZ, ho, c2, c3, e2, h1, h1', zU, zF, Fr.enc, nv, cT]
 ·rw [decide_eq_false hg1] at e2
  by_cases h1 : len m ≤ 64
  ·have h1' : ¬ (64 : Int) < len m := by omega
   by_cases h2 : len k ≤ 64
   ·have h2' : ¬ (64 : Int) < len k := by omega
    cases s <;> simp [lf108, yZ, ho, c2, c3, e2, q1, q2, m1, m2, h1, h1', h2, h2', zU, Fr.enc, nv, cT] <;> exact decide_eq_decide.2 Iff.rfl
   ·have h2' : (64 : Int) < len k := by omega
    simp [lf108, yZ, ho, c2, c3, e2, q1, q2, h1, h1', h2, h2', zU, zF, Fr.enc, nv, cT]
  ·have h1' : (64 : Int) < len m := by omega
   simp [lf108, yZ, ho, c2, c3, e2, q1, q2, h1, h1', zU, zF, Fr.enc, nv, cT]
theorem vF {x : Fr} (h : x.wf) : f1 wN [x.enc] = some (.bool x.ok) := j8 h
theorem numF_ofQ (q : Rat) : numF (ofQ q) = iN q.num := rfl
theorem iN_nat (d : Nat) : iN (d : Int) = iP false (zc d) := by
 have h : decide ((d : Int) < 0) = false := decide_eq_false (by omega)
 unfold iN
 rw [h, Int.natAbs_natCast]
theorem denF_ofQ (q : Rat) : denF (ofQ q) = iN (q.den : Int) := by rw [iN_nat]; rfl
theorem nF (q : Rat) : f1 numF [(ofQ q).enc] = some (iN q.num) := by rw [j8 (wS q), numF_ofQ]
theorem dF (q : Rat) : f1 denF [(ofQ q).enc] = some (iN (q.den : Int)) := by rw [j8 (wS q), denF_ofQ]
theorem tL {k : Nat} {q : Rat} (h : Sm k q) : zl q.num ≤ k := h.1
theorem Sm_d {k : Nat} {q : Rat} (h : Sm k q) : zl (q.den : Int) ≤ k := by unfold zl; rw [Int.natAbs_natCast]; exact h.2
theorem mD {z w : Int} : zl (z * w) ≤ zl z + zl w := by unfold zl; rw [Int.natAbs_mul]; exact ua _ _
theorem zl_add {z w : Int} : zl (z + w) ≤ max (zl z) (zl w) + 1 := by
 unfold zl
 exact Nat.le_trans (qq (Int.natAbs_add_le z w)) (len_add _ _)
theorem be (q : Rat) : (ofQ q).enc = .agg [.bool (decide (q.num < 0)), .lst ((zc q.num.natAbs).map u64), .lst ((zc q.den).map u64)] := rfl
theorem cmpQ_sgn (p : Rat) : yu p 0 = fB p.num := by
 unfold yu uc fB
 simp
def Tqa : Tab := ((((((((Tab.none.with 69 (za (f1 wN))).with 111 (za (f1 numF))).with 116 (za (f1 denF))).with 115 (za uN)).with 114 (za kf)).with 110 (za dD)).with 109 (za wB)).with 108 (za eU)).with 117 (za vr)
theorem tD : TabOk Tryz.prog base Tqa := Tab.with_ok (Tab.with_ok (Tab.with_ok (Tab.with_ok (Tab.with_ok (Tab.with_ok (Tab.with_ok (Tab.with_ok (Tab.with_ok Tab.none_ok mR) qnum_ok) qden_ok) xH) aX) isign_ok) rq) qlow_ok) yv
theorem wX (f : FuncId) (a : List AVal) (H : zb) : Tqa.mu f a H = none := (rfl)
theorem qO : Tqa.fn 69 = za (f1 wN) ∧ Tqa.fn 111 = za (f1 numF) ∧ Tqa.fn 116 = za (f1 denF) ∧ Tqa.fn 115 = za uN ∧ Tqa.fn 114 = za kf ∧ Tqa.fn 110 = za dD ∧ Tqa.fn 109 = za wB ∧ Tqa.fn 108 = za eU ∧ Tqa.fn 117 = za vr := ⟨rfl, rfl, rfl, rfl, rfl, rfl, rfl, rfl, rfl⟩
def oK (x y : Fr) : PVal := .int .i64 (cmpF x y)
def wG (x : Fr) : PVal := .int .i64 (zW x)
def bS (x : Fr) : PVal := (yX x).enc
def cZ (x y : Fr) : PVal := zU (v9 x y)
def cX (x y : Fr) : PVal := zU (vZ x y)
def tS (x y : Fr) : PVal := zU (cW x y)
theorem gJ : zG Tryz.prog base 71 (za (f1 wG)) := by
 refine zd zB tD ze low71 fun args z hs hf => ?_
 obtain ⟨x, wx, rfl, rfl⟩ := ub hs
 refine ⟨by simp [lf71], ?_⟩
 have v1 := vF wx
 cases ox : x.ok with
 | false => rw [ox] at v1; simp only [Fr.enc] at v1 ⊢; simp [lf71, v1, wG, zW, ox, wX, qO]
 | true =>
  rw [ox] at v1
  obtain ⟨p, hp, rfl⟩ := Fr.ok_of ox
  have e : wG (ofQ p) = .int .i64 (fB p.num) := by unfold wG; rw [yh hp, cmpQ_sgn]
  rw [e]
  have n1 := nF p
  have s1 : dD [iN p.num] = some (.int .i64 (fB p.num)) := by
   have := eV (s := decide (p.num < 0)) (zC p.num.natAbs)
   rw [fS (tL hp), bA] at this
   exact this
  simp only [Fr.enc] at v1 n1 ⊢
  simp [lf71, v1, n1, s1, wX, qO]
theorem qneg_ok : zG Tryz.prog base 118 (za (f1 bS)) := by
 refine zd zB tD ze low118 fun args z hs hf => ?_
 obtain ⟨x, wx, rfl, rfl⟩ := ub hs
 refine ⟨by simp [lf118], ?_⟩
 have v1 := vF wx
 cases ox : x.ok with
 | false => rw [ox] at v1; simp only [Fr.enc] at v1 ⊢; simp [lf118, v1, bS, yX, ox, zF, Fr.enc, wX, qO]
 | true =>
  rw [ox] at v1
  obtain ⟨p, hp, rfl⟩ := Fr.ok_of ox
  have e : bS (ofQ p) = (ofQ (-p)).enc := by unfold bS; rw [gO hp]
  rw [e, ofQ_neg]
  have c1 := ko (a := p.num.natAbs) (by have := hp.1; omega)
  have c2 := ko (a := p.den) (by have := hp.2; omega)
  obtain ⟨s, hs⟩ : ∃ s, s = decide (p.num < 0) := ⟨_, rfl⟩
  rw [be, ← hs] at v1 ⊢
  simp [lf118, v1, zu, Fr.enc, wX, qO]
  refine ⟨[], ?_⟩
  cases s <;> simp [c1, c2, yZ, wX, qO] <;> exact decide_eq_decide.2 Iff.rfl
theorem qadd_ok : zG Tryz.prog base 74 (za (f2 cZ)) := by
 refine zd zB tD ze low74 fun args z hs hf => ?_
 obtain ⟨x, y, wx, wy, rfl, rfl⟩ := uT hs
 refine ⟨by simp [lf74], ?_⟩
 have v1 := vF wx
 have v2 := vF wy
 cases ox : x.ok with
 | false => rw [ox] at v1; simp only [Fr.enc] at v1 ⊢; simp [lf74, v1, cZ, v9, ox, zU, zF, Fr.enc, wX, qO]
 | true =>
  rw [ox] at v1
  cases oy : y.ok with
  | false => rw [oy] at v2; simp only [Fr.enc] at v1 v2 ⊢; simp [lf74, v1, v2, cZ, v9, ox, oy, zU, zF, Fr.enc, wX, qO]
  | true =>
   rw [oy] at v2
   obtain ⟨p, hp, rfl⟩ := Fr.ok_of ox
   obtain ⟨q, hq, rfl⟩ := Fr.ok_of oy
   have e : cZ (ofQ p) (ofQ q) = zU (qG (p + q)) := by unfold cZ; rw [tj hp hq]
   rw [e]
   have zp := tL hp
   have zq := tL hq
   have dp := Sm_d hp
   have dq := Sm_d hq
   have t1 := nJ (z := p.num) (w := q.den) (by omega) (by omega)
   have t2 := nJ (z := q.num) (w := p.den) (by omega) (by omega)
   have l1 := mD (z := p.num) (w := q.den)
   have l2 := mD (z := q.num) (w := p.den)
   have o := rN (z := p.num * q.den) (w := q.num * p.den) (by omega) (by omega)
   have n1 := nF p
   have n2 := nF q
   have d1 := dF p
   have d2 := dF q
   have l3 := zl_add (z := p.num * q.den) (w := q.num * p.den)
   have dd : wB [.lst ((ofQ p).d.map u64), .lst ((ofQ q).d.map u64)] = some (.lst ((zc (p.den * q.den)).map u64)) := wz (a := p.den) (b := q.den) (by have := hp.2; omega) (by have := hq.2; omega)
   have l4 := ua p.den q.den
   have hpd := hp.2
   have hqd := hq.2
   have lw := gF (decide (p.num * q.den + q.num * p.den < 0)) (a := (p.num * q.den + q.num * p.den).natAbs) (b := p.den * q.den) (by unfold zl at *; omega) (by omega) (Nat.mul_ne_zero p.den_nz q.den_nz)
   rw [vB, add_mk] at lw
   obtain ⟨w, hw⟩ : ∃ w, w = p.num * q.den + q.num * p.den := ⟨_, rfl⟩
   rw [← hw] at o lw
   obtain ⟨R, hR⟩ : ∃ R, R = qG (p + q) := ⟨_, rfl⟩
   rw [← hR] at lw ⊢
   simp only [iN_case w, zU] at o lw ⊢
   simp only [Fr.enc] at v1 v2 n1 n2 d1 d2 lw ⊢
   simp [lf74, v1, v2, zu, wX, qO]
   refine ⟨[], ?_⟩
   simp [n1, n2, d1, d2, t1, t2, o, zu, wX, qO]
   refine ⟨fun k hk => by match k, hk with | 0, _ => rfl | 1, _ => rfl | 2, _ => rfl, [], ?_⟩
   simp [dd, lw, wX, qO]
theorem qmul_ok : zG Tryz.prog base 70 (za (f2 cX)) := by
 refine zd zB tD ze low70 fun args z hs hf => ?_
 obtain ⟨x, y, wx, wy, rfl, rfl⟩ := uT hs
 refine ⟨by simp [lf70], ?_⟩
 have v1 := vF wx
 have v2 := vF wy
 cases ox : x.ok with
 | false => rw [ox] at v1; simp only [Fr.enc] at v1 ⊢; simp [lf70, v1, cX, vZ, ox, zU, zF, Fr.enc, wX, qO]
 | true =>
  rw [ox] at v1
  cases oy : y.ok with
  | false => rw [oy] at v2; simp only [Fr.enc] at v1 v2 ⊢; simp [lf70, v1, v2, cX, vZ, ox, oy, zU, zF, Fr.enc, wX, qO]
  | true =>
   rw [oy] at v2
   obtain ⟨p, hp, rfl⟩ := Fr.ok_of ox
   obtain ⟨q, hq, rfl⟩ := Fr.ok_of oy
   have e : cX (ofQ p) (ofQ q) = zU (qG (p * q)) := by unfold cX; rw [aM hp hq]
   rw [e]
   obtain ⟨a1, a2⟩ := hp
   obtain ⟨b1, b2⟩ := hq
   have t1 := wz (a := p.num.natAbs) (b := q.num.natAbs) (by omega) (by omega)
   have t2 := wz (a := p.den) (b := q.den) (by omega) (by omega)
   have l1 := ua p.num.natAbs q.num.natAbs
   have l2 := ua p.den q.den
   have lw := gF (decide (p.num < 0) != decide (q.num < 0)) (a := p.num.natAbs * q.num.natAbs) (b := p.den * q.den) (by omega) (by omega) (Nat.mul_ne_zero p.den_nz q.den_nz)
   rw [pH, mul_mk] at lw
   obtain ⟨R, hR⟩ : ∃ R, R = qG (p * q) := ⟨_, rfl⟩
   rw [← hR] at lw ⊢
   obtain ⟨s, hs⟩ : ∃ s, s = decide (p.num < 0) := ⟨_, rfl⟩
   obtain ⟨t, ht⟩ : ∃ s, s = decide (q.num < 0) := ⟨_, rfl⟩
   simp only [be, zU, ← hs, ← ht] at v1 v2 lw ⊢
   simp [lf70, v1, v2, zu, Fr.enc, wX, qO]
   refine ⟨[], ?_⟩
   have hb : (s != t) = !(s == t) := by cases s <;> cases t <;> rfl
   simp [t1, t2, lw, ← hb, Fr.enc, wX, qO]
theorem qquo_ok : zG Tryz.prog base 79 (za (f2 tS)) := by
 refine zd zB tD ze low79 fun args z hs hf => ?_
 obtain ⟨x, y, wx, wy, rfl, rfl⟩ := uT hs
 refine ⟨by simp [lf79], ?_⟩
 have v1 := vF wx
 have v2 := vF wy
 cases ox : x.ok with
 | false => rw [ox] at v1; simp only [Fr.enc] at v1 ⊢; simp [lf79, v1, tS, cW, ox, zU, zF, Fr.enc, wX, qO]
 | true =>
  rw [ox] at v1
  cases oy : y.ok with
  | false => rw [oy] at v2; simp only [Fr.enc] at v1 v2 ⊢; simp [lf79, v1, v2, tS, cW, ox, oy, zU, zF, Fr.enc, wX, qO]
  | true =>
   rw [oy] at v2
   obtain ⟨p, hp, rfl⟩ := Fr.ok_of ox
   obtain ⟨q, hq, rfl⟩ := Fr.ok_of oy
   by_cases h0 : q = 0
   ·subst h0
    have e : tS (ofQ p) (ofQ 0) = zU (zF, 1) := by unfold tS cW; rw [vG, vG]; simp
    rw [e]
    rw [aG] at v2 ⊢
    simp only [Fr.enc, List.map_nil, List.map_cons, u64] at v1 v2 ⊢
    have v2' : f1 wN [.agg [.bool false, .lst [], .lst [.int .u64 1]]] = some (.bool true) := v2
    simp [lf79, v1, v2', zU, zF, Fr.enc, wX, qO]
   ·have e : tS (ofQ p) (ofQ q) = zU (qG (p / q)) := by unfold tS; rw [quoF_num hp hq h0]
    rw [e]
    have hn : q.num.natAbs ≠ 0 := fun e => h0 (Rat.num_eq_zero.1 (by omega))
    have hl := gT hn
    obtain ⟨a1, a2⟩ := hp
    obtain ⟨b1, b2⟩ := hq
    have t1 := wz (a := p.num.natAbs) (b := q.den) (by omega) (by omega)
    have t2 := wz (a := p.den) (b := q.num.natAbs) (by omega) (by omega)
    have l1 := ua p.num.natAbs q.den
    have l2 := ua p.den q.num.natAbs
    have lw := gF (decide (p.num < 0) != decide (q.num < 0)) (a := p.num.natAbs * q.den) (b := p.den * q.num.natAbs) (by omega) (by omega) (Nat.mul_ne_zero p.den_nz hn)
    rw [quo_mk p h0] at lw
    obtain ⟨R, hR⟩ : ∃ R, R = qG (p / q) := ⟨_, rfl⟩
    rw [← hR] at lw ⊢
    obtain ⟨s, hs⟩ : ∃ s, s = decide (p.num < 0) := ⟨_, rfl⟩
    obtain ⟨t, ht⟩ : ∃ s, s = decide (q.num < 0) := ⟨_, rfl⟩
    simp only [be, zU, ← hs, ← ht] at v1 v2 lw ⊢
    have hb : (s != t) = !(s == t) := by cases s <;> cases t <;> rfl
    simp [lf79, v1, v2, yZ, hl, zu, Fr.enc, wX, qO]
    refine ⟨[], ?_⟩
    simp [t1, t2, lw, ← hb, Fr.enc, wX, qO]
theorem mX (z w : Int) : mkRat (zOf (decide (z < 0) != decide (w < 0)) z.natAbs) w.natAbs = Rat.divInt z w := by
 by_cases hw : w < 0
 ·obtain ⟨n, rfl⟩ : ∃ n : Nat, w = -(n : Int) := ⟨w.natAbs, by omega⟩
  rw [Rat.divInt_neg', Rat.divInt_ofNat, Int.natAbs_neg, Int.natAbs_natCast]
  congr 1
  by_cases hz : z < 0
  ·simp [zOf, hz]; omega
  ·simp [zOf, hz]; omega
 ·obtain ⟨n, rfl⟩ : ∃ n : Nat, w = (n : Int) := ⟨w.natAbs, by omega⟩
  rw [Rat.divInt_ofNat, Int.natAbs_natCast]
  congr 1
  by_cases hz : z < 0
  ·simp [zOf, hz]; omega
  ·simp [zOf, hz]; omega
def newF (s : Bool) (a : List Nat) (t : Bool) (b : List Nat) : Fr × Nat := if okI s a && okI t b && decide (b ≠ []) then qG (Rat.divInt (zL s a) (zL t b)) else (zF, 1)
def rU : List PVal → Option PVal
 | [.agg [.bool s, .lst xs], .agg [.bool t, .lst ys]] => match jJ xs, jJ ys with | some a, some b => some (zU (newF s a t b)) | _, _ => none
 | _ => none
theorem sNew_list {s t : Bool} {a b : List Nat} (ha : Wf a) (hb : Wf b) : rU [.agg [.bool s, .lst (a.map u64)], .agg [.bool t, .lst (b.map u64)]] = some (zU (newF s a t b)) := by simp only [rU, zX ha, zX hb]
theorem rT {z w : Int} (hz : zl z ≤ 64) (hw : zl w ≤ 64) (h0 : w ≠ 0) : rU [iN z, iN w] = some (zU (qG (Rat.divInt z w))) := by
 have h := sNew_list (s := decide (z < 0)) (t := decide (w < 0)) (zC z.natAbs) (zC w.natAbs)
 have hb : zc w.natAbs ≠ [] := fun e => h0 (by have := jW.1 e; omega)
 unfold newF at h
 rw [fS hz, fS hw, bA, bA, decide_eq_true hb] at h
 exact h
def Tqn : Tab := (Tab.none.with 112 (za sIV)).with 108 (za eU)
theorem Tqn_ok : TabOk Tryz.prog base Tqn := Tab.with_ok (Tab.with_ok Tab.none_ok xG) qlow_ok
theorem oZ (f : FuncId) (a : List AVal) (H : zb) : Tqn.mu f a H = none := (rfl)
theorem pX : Tqn.fn 112 = za sIV ∧ Tqn.fn 108 = za eU := ⟨rfl, rfl⟩
theorem qnew_ok : zG Tryz.prog base 72 (za rU) := by
 refine zd zB Tqn_ok ze low72 fun args z hs hf => ?_
 unfold rU at hs
 split at hs
 case h_2 => cases hs
 rename_i s xs t ys
 split at hs
 case h_2 => cases hs
 rename_i a b ha hb
 obtain ⟨rfl, wa⟩ := zI ha
 obtain ⟨rfl, wb⟩ := zI hb
 cases hs
 refine ⟨by simp [lf72], ?_⟩
 have va := bI (s := s) wa
 have vb := bI (s := t) wb
 unfold newF
 cases oa : okI s a with
 | false => rw [oa] at va; simp [lf72, va, zU, zF, Fr.enc, oZ, pX]
 | true =>
  rw [oa] at va
  cases ob : okI t b with
  | false => rw [ob] at vb; simp [lf72, va, vb, zU, zF, Fr.enc, oZ, pX]
  | true =>
   rw [ob] at vb
   by_cases hb0 : b = []
   ·subst hb0
    simp only [List.map_nil] at vb
    simp [lf72, va, vb, zU, zF, Fr.enc, oZ, pX]
   ·obtain ⟨z, lz, rfl, rfl⟩ := sC oa
    obtain ⟨w, lw, rfl, rfl⟩ := sC ob
    rw [bA, bA]
    have hw0 : w.natAbs ≠ 0 := fun e => hb0 (by rw [e, zy])
    have hl := gT hw0
    unfold zl at lz lw
    have L := gF (decide (z < 0) != decide (w < 0)) (a := z.natAbs) (b := w.natAbs) (by omega) (by omega) hw0
    rw [mX] at L
    obtain ⟨R, hR⟩ : ∃ R, R = qG (Rat.divInt z w) := ⟨_, rfl⟩
    rw [← hR] at L ⊢
    obtain ⟨s, hs⟩ : ∃ s, s = decide (z < 0) := ⟨_, rfl⟩
    obtain ⟨t, ht⟩ : ∃ s, s = decide (w < 0) := ⟨_, rfl⟩
    rw [← hs] at va L ⊢
    rw [← ht] at vb L ⊢
    have hb : (s != t) = !(s == t) := by cases s <;> cases t <;> rfl
    simp only [zU, Fr.enc] at L ⊢
    simp [lf72, va, vb, yZ, hl, hb0, L, ← hb, oZ, pX]
theorem p6 {n : Int} (h1 : -9223372036854775808 ≤ n) (h2 : n < 9223372036854775808) : zl n ≤ 1 := by
 unfold zl
 exact dP (by rw [Nat.pow_one, qI]; omega)
theorem nC {k : Nat} {z w : Int} (hz : zl z ≤ k) (hw : zl w ≤ k) (hk : 1 ≤ k) : Sm k (Rat.divInt z w) := by
 by_cases h0 : w = 0
 ·subst h0
  rw [Rat.divInt_zero]
  refine ⟨?_, ?_⟩
  ·rw [Rat.zero_num]
   show len 0 ≤ k
   rw [gR]; omega
  ·rw [Rat.zero_den, gS]; exact hk
 ·rw [← mX]
  exact Sm_mk (by rw [vw]; exact hz) hw (by omega)
def uK : List PVal → Option PVal
 | [.int .i64 n, .int .i64 d] => if (-9223372036854775808 ≤ n ∧ n < 9223372036854775808) ∧ (-9223372036854775808 ≤ d ∧ d < 9223372036854775808) then some (ofQ (Rat.divInt n d)).enc else none
 | _ => none
theorem sQOf_at {n d : Int} (h1 : -9223372036854775808 ≤ n ∧ n < 9223372036854775808) (h2 : -9223372036854775808 ≤ d ∧ d < 9223372036854775808) : uK [.int .i64 n, .int .i64 d] = some (ofQ (Rat.divInt n d)).enc := if_pos ⟨h1, h2⟩
def Tqi : Tab := ((Tab.none.with 73 (za r8)).with 72 (za rU)).with 53 (za kj)
theorem Tqi_ok : TabOk Tryz.prog base Tqi := Tab.with_ok (Tab.with_ok (Tab.with_ok Tab.none_ok iof_ok) qnew_ok) sq
theorem Tqi_mu (f : FuncId) (a : List AVal) (H : zb) : Tqi.mu f a H = none := (rfl)
theorem Tqi_fns : Tqi.fn 73 = za r8 ∧ Tqi.fn 72 = za rU ∧ Tqi.fn 53 = za kj := ⟨rfl, rfl, rfl⟩
theorem l6 : zG Tryz.prog base 43 (za uK) := by
 refine zd zB Tqi_ok ze low43 fun args z hs hf => ?_
 unfold uK at hs
 split at hs
 case h_2 => cases hs
 rename_i n d
 split at hs
 case isFalse => cases hs
 rename_i hc
 obtain ⟨⟨n1, n2⟩, d1, d2⟩ := hc
 cases hs
 refine ⟨by simp [lf43], ?_⟩
 by_cases h0 : d = 0
 ·subst h0
  have h1 := yK
  rw [Rat.divInt_zero]
  simp only [Fr.enc] at h1 ⊢
  simp [lf43, h1, Tqi_mu, Tqi_fns]
 ·have hb : (d == 0) = false := beq_false_of_ne h0
  have o1 := cB n1 n2
  have o2 := cB d1 d2
  have z1 := p6 n1 n2
  have z2 := p6 d1 d2
  have N := rT (z := n) (w := d) (by omega) (by omega) h0
  rw [bZ (nC (k := 64) (by omega) (by omega) (by omega))] at N
  simp only [zU, Fr.enc] at N ⊢
  simp [lf43, hb, o1, o2, N, Tqi_mu, Tqi_fns]
theorem ta (z : Int) : Rat.divInt z 1 = (z : Rat) := by
 rw [show (1 : Int) = ((1 : Nat) : Int) from rfl, Rat.divInt_ofNat]
 refine Rat.ext ?_ ?_
 ·rw [Rat.num_mkRat]; simp
 ·rw [Rat.den_mkRat]; simp
theorem sIOf_one : r8 [.int .i64 1] = some (iN 1) := cB (by decide) (by decide)
theorem zl_one : zl 1 = 1 := by unfold zl; exact gS
end Go.Proofs.YtgbjjikaenlkmaaGreat

namespace Go.Proofs.YtgbjjikaenlkmaaGreat
open Go Go.Abs Go.Limbs
set_option maxRecDepth 20000
end Go.Proofs.YtgbjjikaenlkmaaGreat

namespace Go.Proofs.YtgbjjikaenlkmaaGreat
open Go Go.Abs Go.Limbs
variable {base : Prot}
set_option maxRecDepth 20000
attribute [local irreducible] vc
attribute [local simp] za zi freezeL fuel zk u64 au
def lowF (neg : Bool) (n d : List Nat × Nat) : Fr × Nat := if n.2 = 0 ∧ d.2 = 0 then qG (mkRat (zOf neg (val n.1)) (val d.1)) else (zF, 4)
end Go.Proofs.YtgbjjikaenlkmaaGreat

namespace Go.Proofs.YtgbjjikaenlkmaaGreat
open Go Go.Abs Go.Limbs Go.Lib
set_option maxRecDepth 20000
end Go.Proofs.YtgbjjikaenlkmaaGreat

namespace Go.Proofs.YtgbjjikaenlkmaaGreat
open Go Go.Abs Go.Limbs
variable {base : Prot}
set_option maxRecDepth 20000
attribute [local irreducible] vc
attribute [local simp] za zi freezeL fuel zk u64 au
end Go.Proofs.YtgbjjikaenlkmaaGreat

namespace Go.Proofs.YtgbjjikaenlkmaaGreat
open Go Go.Abs
def lf88 : LFunc := ⟨21,[.cell 4 3 true,.slot 5],.seq (.region [Oa 2 (.newv 3 33 (Tm 0)),Oa 3 (.newv 3 33 (Tm 1)),Oa 4 (.newv 3 33 (.cst Zr)),Oa 5 (.mov (Kz 0))]) (.seq (.seq (.region [Oq 6 3 true 2,Oa 7 (.call 85 [Tm 6]),Oa 8 (.un .not (Tm 7)),Om 9 8,Od 10 9 (.load 3 true (Tm 3)),Od 11 9 (.call 85 [Tm 10]),Od 12 9 (.un .not (Tm 11)),Ou 13 9 12]) (.cond (Tm 13) (.seq (.region [Oa 14 (.build Zr []),Oy 3 4 14,Oa 5 (.mov (Kz 1))]) (.ret)) (.skip))) (.seq (.region [Oq 15 3 true 2,Oq 16 3 true 3,Oa 17 (.call 125 [Tm 15,Tm 16]),Oa 18 (.call 123 [Tm 17]),Ox 19 18 0,Ox 20 18 1,Oy 3 4 19,Om 5 20]) (.ret)))⟩
theorem low88 : zf Tryz.prog gl0 88 = some lf88 := Go.Abs.lowF (by kernel_rfl)
def lf87 : LFunc := ⟨34,[.cell 4 3 true,.slot 5],.seq (.region [Oa 2 (.newv 3 33 (Tm 0)),Oa 3 (.newv 3 33 (Tm 1)),Oa 4 (.newv 3 33 (.cst Zr)),Oa 5 (.mov (Kz 0))]) (.seq (.seq (.region [Oq 6 3 true 2,Oa 7 (.call 85 [Tm 6]),Oa 8 (.un .not (Tm 7)),Om 9 8,Od 10 9 (.load 3 true (Tm 3)),Od 11 9 (.call 85 [Tm 10]),Od 12 9 (.un .not (Tm 11)),Ou 13 9 12]) (.cond (Tm 13) (.seq (.region [Oa 14 (.build Zr []),Oy 3 4 14,Oa 5 (.mov (Kz 1))]) (.ret)) (.skip))) (.seq (.regionW [(Oz 15 0 2,.s),(Oq 16 1 false 15,.s),(Oz 17 0 3,.s),(Oq 18 1 false 17,.s),(Oa 19 (.eqB true (Tm 16) (Tm 18)),.f),(Oz 20 1 2,.f),(Oq 21 1 false 20,.f),(Oz 22 1 3,.f),(Oq 23 1 false 22,.f),(Oa 24 (.call 124 [Tm 21,Tm 23]),.s),(Oz 25 2 2,.s),(Oq 26 1 false 25,.s),(Oz 27 2 3,.s),(Oq 28 1 false 27,.s),(Oa 29 (.call 124 [Tm 26,Tm 28]),.s),(Oa 30 (.call 64 [Tm 19,Tm 24,Tm 29]),.f),(Oa 31 (.call 123 [Tm 30]),.f),(Ox 32 31 0,.f),(Ox 33 31 1,.f),(Oy 3 4 32,.f),(Om 5 33,.f)]) (.ret)))⟩
theorem low87 : zf Tryz.prog gl0 87 = some lf87 := Go.Abs.lowF (by kernel_rfl)
def lf126 : LFunc := ⟨16,[.slot 4],.seq (.region [Oa 2 (.newv 3 33 (Tm 0)),Oa 3 (.newv 3 33 (Tm 1)),Oa 4 (.mov (Kz 0))]) (.seq (.seq (.region [Oq 5 3 true 2,Oa 6 (.call 85 [Tm 5]),Oa 7 (.un .not (Tm 6)),Om 8 7,Od 9 8 (.load 3 true (Tm 3)),Od 10 8 (.call 85 [Tm 9]),Od 11 8 (.un .not (Tm 10)),Ou 12 8 11]) (.cond (Tm 12) (.seq (.region [Oa 4 (.mov (Kz 0))]) (.ret)) (.skip))) (.seq (.region [Oq 13 3 true 2,Oq 14 3 true 3,Oa 15 (.call 146 [Tm 13,Tm 14]),Om 4 15]) (.ret)))⟩
theorem low126 : zf Tryz.prog gl0 126 = some lf126 := Go.Abs.lowF (by kernel_rfl)
def lf89 : LFunc := ⟨6,[.slot 2],.seq (.region [Oa 1 (.newv 3 33 (Tm 0)),Oa 2 (.mov (Kz 0))]) (.seq (.regionD [Oq 3 3 true 1,Oa 4 (.call 19 [.cst (.p (.int .i64 0)),.cst (.p (.int .i64 1))]),Oa 5 (.call 126 [Tm 3,Tm 4]),Om 2 5]) (.ret))⟩
theorem low89 : zf Tryz.prog gl0 89 = some lf89 := Go.Abs.lowF (by kernel_rfl)
def lf84 : LFunc := ⟨23,[.cell 2 3 true],.seq (.region [Oa 1 (.newv 3 33 (Tm 0)),Oa 2 (.newv 3 33 (.cst Zr))]) (.seq (.seq (.region [Oq 3 3 true 1,Oa 4 (.call 85 [Tm 3]),Oa 5 (.un .not (Tm 4))]) (.cond (Tm 5) (.seq (.region [Oa 6 (.build Zr []),Oy 3 2 6]) (.ret)) (.skip))) (.seq (.regionW [(Oz 7 0 1,.f),(Oq 8 1 false 7,.f),(Oa 9 (.un .not (Tm 8)),.f),(Om 10 9,.f),(Oc 11 10 (.fadr 1 (Tm 1)),.s),(Oc 12 10 (.load 1 false (Tm 11)),.s),(Oc 13 10 (.len (Tm 12)),.s),(Oc 14 10 (.bin .gtr (Tm 13) (Kz 0)),.f),(Ot 15 10 14,.f),(Oz 16 1 1,.f),(Oq 17 1 false 16,.f),(Oa 18 (.call 66 [Tm 17]),.s),(Oz 19 2 1,.s),(Oq 20 1 false 19,.s),(Oa 21 (.call 66 [Tm 20]),.s),(Oa 22 (.build Zr [(0,1,(Tm 15)),(1,1,(Tm 18)),(2,1,(Tm 21))]),.f),(Oy 3 2 22,.f)]) (.ret)))⟩
theorem low84 : zf Tryz.prog gl0 84 = some lf84 := Go.Abs.lowF (by kernel_rfl)
def lf85 : LFunc := ⟨38,[.slot 2],.seq (.region [Oa 1 (.newv 3 33 (Tm 0)),Oa 2 (.mov Kg)]) (.seq (.region [Oz 3 1 1,Oq 4 1 false 3,Oa 5 (.call 102 [Tm 4]),Om 6 5,Oc 7 6 (.fadr 2 (Tm 1)),Oc 8 6 (.load 1 false (Tm 7)),Oc 9 6 (.call 102 [Tm 8]),Ot 10 6 9,Om 11 10,Oc 12 11 (.fadr 2 (Tm 1)),Oc 13 11 (.load 1 false (Tm 12)),Oc 14 11 (.len (Tm 13)),Oc 15 11 (.bin .gtr (Tm 14) (Kz 0)),Ot 16 11 15,Om 17 16,Oc 18 17 (.fadr 0 (Tm 1)),Oc 19 17 (.load 1 false (Tm 18)),Oc 20 17 (.un .not (Tm 19)),Oj 21 17 20,Od 22 21 (.fadr 1 (Tm 1)),Od 23 21 (.load 1 false (Tm 22)),Od 24 21 (.len (Tm 23)),Od 25 21 (.bin .gtr (Tm 24) (Kz 0)),Oc 26 17 (.pick (Tm 21) Kt (Tm 25)),Ot 27 17 26,Om 28 27,Oc 29 28 (.fadr 1 (Tm 1)),Oc 30 28 (.load 1 false (Tm 29)),Oc 31 28 (.fadr 2 (Tm 1)),Oc 32 28 (.load 1 false (Tm 31)),Oc 33 28 (.call 103 [Tm 30,Tm 32]),Oc 34 28 (.call 121 []),Oc 35 28 (.call 120 [Tm 33,Tm 34]),Oc 36 28 (.bin .eql (Tm 35) (Kz 0)),Ot 37 28 36,Om 2 37]) (.ret))⟩
theorem low85 : zf Tryz.prog gl0 85 = some lf85 := Go.Abs.lowF (by kernel_rfl)
def lf36 : LFunc := ⟨24,[.slot 4],.seq (.region [Oa 2 (.newv 3 33 (Tm 0)),Oa 3 (.newv 3 33 (Tm 1)),Oa 4 (.mov Kg)]) (.seq (.region [Oz 5 0 2,Oq 6 1 false 5,Oz 7 0 3,Oq 8 1 false 7,Oa 9 (.eqB false (Tm 6) (Tm 8)),Om 10 9,Oc 11 10 (.fadr 1 (Tm 2)),Oc 12 10 (.load 1 false (Tm 11)),Oc 13 10 (.fadr 1 (Tm 3)),Oc 14 10 (.load 1 false (Tm 13)),Oc 15 10 (.call 62 [Tm 12,Tm 14]),Ot 16 10 15,Om 17 16,Oc 18 17 (.fadr 2 (Tm 2)),Oc 19 17 (.load 1 false (Tm 18)),Oc 20 17 (.fadr 2 (Tm 3)),Oc 21 17 (.load 1 false (Tm 20)),Oc 22 17 (.call 62 [Tm 19,Tm 21]),Ot 23 17 22,Om 4 23]) (.ret))⟩
theorem low36 : zf Tryz.prog gl0 36 = some lf36 := Go.Abs.lowF (by kernel_rfl)
def lf123 : LFunc := ⟨16,[.cell 2 3 true,.slot 3],.seq (.region [Oa 1 (.newv 3 33 (Tm 0)),Oa 2 (.newv 3 33 (.cst Zr)),Oa 3 (.mov (Kz 0))]) (.seq (.seq (.region [Oz 4 1 1,Oq 5 1 false 4,Oa 6 (.len (Tm 5)),Oa 7 (.bin .gtr (Tm 6) (Kz 64)),Om 8 7,Od 9 8 (.fadr 2 (Tm 1)),Od 10 8 (.load 1 false (Tm 9)),Od 11 8 (.len (Tm 10)),Od 12 8 (.bin .gtr (Tm 11) (Kz 64)),Ou 13 8 12]) (.cond (Tm 13) (.seq (.region [Oa 14 (.build Zr []),Oy 3 2 14,Oa 3 (.mov (Kz 4))]) (.ret)) (.skip))) (.seq (.region [Oq 15 3 true 1,Oy 3 2 15,Oa 3 (.mov (Kz 0))]) (.ret)))⟩
theorem low123 : zf Tryz.prog gl0 123 = some lf123 := Go.Abs.lowF (by kernel_rfl)
def lf125 : LFunc := ⟨33,[.cell 4 3 true],.seq (.region [Oa 2 (.newv 3 33 (Tm 0)),Oa 3 (.newv 3 33 (Tm 1)),Oa 4 (.newv 3 33 (.cst Zr))]) (.seq (.regionW [(Oz 6 0 2,.s),(Oq 7 1 false 6,.s),(Oz 8 1 2,.s),(Oq 9 1 false 8,.s),(Oz 10 2 3,.s),(Oq 11 1 false 10,.s),(Oa 12 (.call 124 [Tm 9,Tm 11]),.t),(Oa 13 (.call 65 [Tm 7,Tm 12]),.t),(Oz 14 0 3,.s),(Oq 15 1 false 14,.s),(Oz 16 1 3,.s),(Oq 17 1 false 16,.s),(Oz 18 2 2,.s),(Oq 19 1 false 18,.s),(Oa 20 (.call 124 [Tm 17,Tm 19]),.t),(Oa 21 (.call 65 [Tm 15,Tm 20]),.t),(Oa 22 (.call 145 [Tm 13,Tm 21]),.t),(Oa 5 (.newv 2 113 (.cst (.agg [.p (.bool false),.tight []]))),.s),(Oy 2 5 22,.f)]) (.seq (.regionW [(Oz 23 0 5,.s),(Oq 24 1 false 23,.s),(Oz 25 1 5,.s),(Oq 26 1 false 25,.s),(Oz 27 2 2,.f),(Oq 28 1 false 27,.f),(Oz 29 2 3,.f),(Oq 30 1 false 29,.f),(Oa 31 (.call 124 [Tm 28,Tm 30]),.s),(Oa 32 (.call 64 [Tm 24,Tm 26,Tm 31]),.f),(Oy 3 4 32,.f)]) (.ret)))⟩
theorem low125 : zf Tryz.prog gl0 125 = some lf125 := Go.Abs.lowF (by kernel_rfl)
def lf64 : LFunc := ⟨38,[.cell 6 3 true],.seq (.region [Oa 6 (.newv 3 33 (.cst Zr))]) (.seq (.region [Om 12 1,Om 13 2,Oa 14 (.call 103 [Tm 12,Tm 13]),Om 7 14]) (.seq (.region [Om 16 1,Om 17 7,Oa 18 (.call 104 [Tm 16,Tm 17]),Om 15 18,Ox 19 15 0,Ox 20 15 1,Om 8 19,Om 9 20]) (.seq (.region [Om 22 2,Om 23 7,Oa 24 (.call 104 [Tm 22,Tm 23]),Om 21 24,Ox 25 21 0,Ox 26 21 1,Om 10 25,Om 11 26]) (.seq (.region [Om 27 0,Om 28 27,Oj 29 28 8,Oc 30 28 (.len (Tm 29)),Oc 31 28 (.bin .gtr (Tm 30) (Kz 0)),Ot 32 28 31,Om 33 8,Oa 34 (.call 66 [Tm 33]),Om 35 10,Oa 36 (.call 66 [Tm 35]),Oa 37 (.build Zr [(0,1,(Tm 32)),(1,1,(Tm 34)),(2,1,(Tm 36))]),Oy 3 6 37]) (.ret)))))⟩
theorem low64 : zf Tryz.prog gl0 64 = some lf64 := Go.Abs.lowF (by kernel_rfl)
def lf146 : LFunc := ⟨22,[.slot 4],.seq (.region [Oa 2 (.newv 3 33 (Tm 0)),Oa 3 (.newv 3 33 (Tm 1)),Oa 4 (.mov (Kz 0))]) (.seq (.regionD [Oz 5 0 2,Oq 6 1 false 5,Oz 7 1 2,Oq 8 1 false 7,Oz 9 2 3,Oq 10 1 false 9,Oa 11 (.call 124 [Tm 8,Tm 10]),Oa 12 (.call 65 [Tm 6,Tm 11]),Oz 13 0 3,Oq 14 1 false 13,Oz 15 1 3,Oq 16 1 false 15,Oz 17 2 2,Oq 18 1 false 17,Oa 19 (.call 124 [Tm 16,Tm 18]),Oa 20 (.call 65 [Tm 14,Tm 19]),Oa 21 (.call 159 [Tm 12,Tm 20]),Om 4 21]) (.ret))⟩
theorem low146 : zf Tryz.prog gl0 146 = some lf146 := Go.Abs.lowF (by kernel_rfl)
def lf121 : LFunc := ⟨2,[.slot 0],.seq (.region [Oa 0 (.mov (.cst (.tight [])))]) (.seq (.region [Oa 1 (.buildSl 1 147 (.p (.int .u64 0)) 1 [(0,(.cst (.p (.int .u64 1))))]),Om 0 1]) (.ret))⟩
theorem low121 : zf Tryz.prog gl0 121 = some lf121 := Go.Abs.lowF (by kernel_rfl)
def lf19 : LFunc := ⟨18,[.cell 4 3 true],.seq (.region [Oa 4 (.newv 3 33 (.cst Zr))]) (.seq (.seq (.region [Om 7 1,Oa 8 (.bin .eql (Tm 7) (Kz 0))]) (.cond (Tm 8) (.region [Oa 0 (.mov (Kz 0)),Oa 1 (.mov (Kz 1))]) (.skip))) (.seq (.region [Om 10 0,Oa 11 (.call 38 [Tm 10]),Om 12 1,Oa 13 (.call 38 [Tm 12]),Oa 14 (.call 37 [Tm 11,Tm 13]),Om 9 14,Ox 15 9 0,Ox 16 9 1,Oa 5 (.newv 3 33 (.cst Zr)),Oy 3 5 15,Om 6 16]) (.seq (.region [Oq 17 3 true 5,Oy 3 4 17]) (.ret))))⟩
theorem low19 : zf Tryz.prog gl0 19 = some lf19 := Go.Abs.lowF (by kernel_rfl)
def lf37 : LFunc := ⟨31,[.cell 4 3 true,.slot 5],.seq (.region [Oa 2 (.newv 2 113 (Tm 0)),Oa 3 (.newv 2 113 (Tm 1)),Oa 4 (.newv 3 33 (.cst Zr)),Oa 5 (.mov (Kz 0))]) (.seq (.seq (.region [Oq 6 2 true 2,Oa 7 (.call 63 [Tm 6]),Oa 8 (.un .not (Tm 7)),Om 9 8,Od 10 9 (.load 2 true (Tm 3)),Od 11 9 (.call 63 [Tm 10]),Od 12 9 (.un .not (Tm 11)),Ou 13 9 12,Om 14 13,Od 15 14 (.fadr 1 (Tm 3)),Od 16 14 (.load 1 false (Tm 15)),Od 17 14 (.len (Tm 16)),Od 18 14 (.bin .eql (Tm 17) (Kz 0)),Ou 19 14 18]) (.cond (Tm 19) (.seq (.region [Oa 20 (.build Zr []),Oy 3 4 20,Oa 5 (.mov (Kz 1))]) (.ret)) (.skip))) (.seq (.region [Oz 21 0 2,Oq 22 1 false 21,Oz 23 0 3,Oq 24 1 false 23,Oa 25 (.eqB true (Tm 22) (Tm 24)),Oz 26 1 2,Oq 27 1 false 26,Oz 28 1 3,Oq 29 1 false 28,Oa 30 (.call 64 [Tm 25,Tm 27,Tm 29]),Oy 3 4 30,Oa 5 (.mov (Kz 0))]) (.ret)))⟩
theorem low37 : zf Tryz.prog gl0 37 = some lf37 := Go.Abs.lowF (by kernel_rfl)
end Go.Proofs.YtgbjjikaenlkmaaGreat

namespace Go.Proofs.YtgbjjikaenlkmaaGreat
open Go Go.Abs Go.Limbs
variable {base : Prot}
set_option maxRecDepth 20000
attribute [local irreducible] vc
attribute [local simp] za zi freezeL fuel zk u64 au
def xb (x y : Fr) : Bool := decide (x.s = y.s) && decide (x.n = y.n) && decide (x.d = y.d)
def vX (x y : Fr) : PVal := .bool (xb x y)
theorem sk : zG Tryz.prog base 36 (za (f2 vX)) := by
 refine zd zB Tsm_ok ze low36 fun args z hs hf => ?_
 obtain ⟨x, y, wx, wy, rfl, rfl⟩ := uT hs
 obtain ⟨s, n, d⟩ := x
 obtain ⟨t, m, e⟩ := y
 refine ⟨by simp [lf36], ?_⟩
 have h1 := yI wx.1 wy.1
 have h2 := yI wx.2 wy.2
 simp only at h1 h2
 simp only [Fr.enc, vX, xb]
 obtain ⟨q1, hq1⟩ : ∃ q, q = decide (n = m) := ⟨_, rfl⟩
 obtain ⟨q2, hq2⟩ : ∃ q, q = decide (d = e) := ⟨_, rfl⟩
 rw [← hq1] at h1 ⊢
 rw [← hq2] at h2 ⊢
 cases s <;> cases t <;> cases q1 <;> cases q2 <;> simp [lf36, h1, h2, Tsm_mu, Tsm_fn]
theorem sQOf_num {n d : Int} (q : Rat) (hn : -1000 ≤ n ∧ n ≤ 1000) (hd : -1000 ≤ d ∧ d ≤ 1000) (h : Rat.divInt n d = q) : uK [.int .i64 n, .int .i64 d] = some (ofQ q).enc := by rw [sQOf_at (by omega) (by omega), h]
def cA : List PVal → Option PVal
 | [.lst xs, .int .i64 n] => match vM xs with | some a => if -6000000 ≤ n ∧ n ≤ 6000000 then some (wD (if n < 0 then a / 2 ^ (-n).toNat else a * 2 ^ n.toNat)) else none | _ => none
 | _ => none
theorem lL {a n : Nat} (ha : len a ≤ 100000) (hn : n ≤ 6000000) : cA [.lst ((zc a).map u64), .int .i64 n] = some (.lst ((zc (a * 2 ^ n)).map u64)) := by
 simp only [cA, zM ha]
 rw [if_pos ⟨by omega, by omega⟩, if_neg (by omega)]
 rfl
def Trt : Tab := Tab.none.with 66 (za qF)
theorem Trt_ok : TabOk Tryz.prog base Trt := Tab.with_ok Tab.none_ok ux
theorem Trt_mu (f : FuncId) (a : List AVal) (H : zb) : Trt.mu f a H = none := (rfl)
theorem tq : Trt.fn 66 = za qF := (rfl)
theorem rup_loop {a m w s : Nat} {R : LExit → AFr → zb → Prop} {fr : AFr} {H : zb} (hla : len a ≤ 100000) (hw : w = m / 64) (hs : s = m % 64) (hm : m ≤ 6000000) (hH : H = [zH 0 (List.replicate w 0)]) (f0 : fr 0 = .p (.lst ((zc a).map u64)))
  (f9 : fr 9 = .own 0 0 w 0) (f10 : fr 10 = .p (.int .u64 s)) (f11 : fr 11 = .p (.int .u64 0)) (f12 : fr 12 = .p (.int .i64 0))
  (hR : ∀ (fr' : AFr) (H' : zb) (l : List Nat) (c : Nat) (x : AVal), l.length = w + len a → Wf l → c < B → val l + B ^ (w + len a) * c = a * 2 ^ m → IsRow H' x l → fr' 9 = x → fr' 11 = .p (.int .u64 c) → R .normal fr' H') : vc Trt lf133_B1 R fr H := by
 have la : (zc a).length = len a := rfl
 have wa := zC a
 have hs64 : s < 64 := by omega
 have hpow : 2 ^ m = B ^ w * 2 ^ s := by rw [bw, ← Nat.pow_add, show 64 * w + s = m by omega]
 simp only [lf133_B1, zr]
 refine zo (fun fr H => ∃ (i : Nat) (l : List Nat) (c : Nat) (x : AVal), i ≤ len a ∧ l.length = w + i ∧ Wf l ∧ c < 2 ^ s ∧ val l + B ^ (w + i) * c = val ((zc a).take i) * 2 ^ m ∧ IsRow H x l ∧
   fr 0 = .p (.lst ((zc a).map u64)) ∧ fr 9 = x ∧ fr 10 = .p (.int .u64 s) ∧ fr 11 = .p (.int .u64 c) ∧ fr 12 = .p (.int .i64 i))
  (fun fr _ => len a - zD (fr 12)) ⟨0, List.replicate w 0, 0, .own 0 0 w 0, by omega, by simp, Wf.zeros _, Nat.two_pow_pos s, by simp [qg, kd], .inr ⟨0, 0, by simp, by rw [hH]; rfl⟩, f0, f9, f10, by rw [f11]; rfl, by rw [f12]; rfl⟩ ?_
 rintro fr H ⟨i, l, c, x, hi, hl, hwl, hc, hv, hR', f0, f9, f10, f11, f12⟩
 subst f9
 have hcB : c < B := Nat.lt_of_lt_of_le hc (by rw [← bO]; exact Nat.pow_le_pow_right (by omega) (by omega))
 by_cases hlt : i < len a
 ·obtain ⟨y, hy⟩ : ∃ y, (zc a)[i]? = some y := ⟨_, List.getElem?_eq_getElem (by omega)⟩
  have hyB := wa.get hy
  obtain ⟨lo, hlo⟩ : ∃ t, t = y * 2 ^ s % B := ⟨_, rfl⟩
  obtain ⟨hb, hhb⟩ : ∃ t, t = y * 2 ^ s / B := ⟨_, rfl⟩
  have hsum : c + lo < B := by rw [hlo]; exact dw (by omega) hc
  have hbl : hb < 2 ^ s := by rw [hhb]; exact nH hyB
  have hloB : lo < B := by omega
  have e1 : qw .shl .u64 y s = some (.int .u64 lo) := by rw [kC (by omega), hlo]
  have e2 : qw .shr .u64 y ((64 - s : Nat) : Int) = some (.int .u64 hb) := by rw [ja (by omega), hhb, rJ (by omega)]
  have e3 : IntKind.u64.wrap (64 - (s : Int)) = ((64 - s : Nat) : Int) := by rw [IntWalk.u64_in _ (by omega)]; omega
  have e4 := cJ hloB hcB
  rw [show lo ||| c = c + lo by rw [Nat.or_comm, hlo]; exact zaa (by omega) hc] at e4
  obtain ⟨D, hD⟩ : ∃ t, t = c + lo := ⟨_, rfl⟩
  rw [← hD] at e4 hsum
  have hw5 := zs (i := i) (by omega)
  obtain ⟨j, ver, H', happ, hj⟩ := mj hR' D (by omega) ⟨1, 0, false, [.p (.int .u64 D)], 147⟩
  have hRn : IsRow H' (.own j 0 (l.length + 1) ver) (l ++ [D]) := by
   have := IsRow.own hj
   simpa using this
  have hwn : Wf (l ++ [D]) := hwl.append (Wf.cons hsum Wf.nil)
  have hnew : val (l ++ [D]) + B ^ (w + (i + 1)) * hb = val ((zc a).take (i + 1)) * 2 ^ m := by
   rw [uh, hl, zA hy, hD, hlo, hhb, ← Nat.add_assoc, Nat.pow_succ]
   refine eK hv ?_
   rw [hpow, Nat.pow_add]
   rw [Nat.mul_assoc, Nat.mul_comm (B ^ i), Nat.mul_assoc]
  by_cases hs0 : s = 0
  ·subst hs0
   rw [show ((0 : Nat) : Int) = 0 from rfl] at e1
   have hb0 : hb = 0 := by omega
   simp [-BitVec.toNat_or, f0, f10, f11, f12, la, hlt, zZ hy, e1, e4, happ, hw5, zN, zD, -qC]
   rw [hb0, Nat.mul_zero, Nat.add_zero] at hnew
   exact ⟨⟨i + 1, by omega, l ++ [D], by simp; omega, hwn, hnew, _, hRn, rfl, by omega⟩, by omega⟩
  ·have hsI : (0 : Int) < s := by omega
   have hsN : 0 < s := by omega
   simp [-BitVec.toNat_or, f0, f10, f11, f12, la, hlt, zZ hy, e1, e2, e3, e4, happ, hsN, hw5, zN, zD, -qC]
   exact ⟨⟨i + 1, by omega, l ++ [D], by simp; omega, hwn, hb, hbl, hnew, _, hRn, rfl, rfl, by omega⟩, by omega⟩
 ·obtain rfl : i = len a := by omega
  rw [List.take_of_length_le (by omega), zw] at hv
  simp [f0, f12, la]
  exact hR _ H l c _ hl hwl hcB hv hR' (by simp) (by simp [f11])
theorem rshift_ok : zG Tryz.prog base 133 (za cA) := by
 refine zd zB Trt_ok ze low133 fun args z hs hf => ?_
 unfold cA at hs
 split at hs
 case h_2 => cases hs
 rename_i xs n
 split at hs
 case h_2 => cases hs
 rename_i a ha
 split at hs
 case isFalse => cases hs
 rename_i hn
 cases hs
 obtain ⟨rfl, hla⟩ := zE ha
 refine ⟨by simp [lf133], ?_⟩
 have la : (zc a).length = len a := rfl
 have wa := zC a
 by_cases hneg : n < 0
 ·obtain ⟨m, hm⟩ : ∃ m : Nat, -n = m := ⟨(-n).toNat, by omega⟩
  obtain ⟨w, hw⟩ : ∃ w, w = m / 64 := ⟨_, rfl⟩
  obtain ⟨s, hs⟩ : ∃ s, s = m % 64 := ⟨_, rfl⟩
  have hs64 : s < 64 := by omega
  have q0 : IntKind.i64.wrap (-n) = (m : Int) := by rw [IntWalk.i64_in _ (by omega), hm]
  have q1' : IntKind.i64.wrap ((m : Int) / 64) = (w : Int) := by rw [IntWalk.i64_in _ (by omega)]; omega
  have q1 : IntKind.i64.wrap ((m : Int).tdiv 64) = (w : Int) := by rw [Int.tdiv_eq_ediv_of_nonneg (by omega), q1']
  have q2 : (m : Int).tmod 64 = (s : Int) := by rw [Int.tmod_eq_emod_of_nonneg (by omega)]; omega
  have q3 : IntKind.u64.wrap (s : Int) = s := IntWalk.u64_in _ (by omega)
  have hpow : 2 ^ m = B ^ w * 2 ^ s := by rw [bw, ← Nat.pow_add, show 64 * w + s = m by omega]
  have hmn : (-n).toNat = m := by omega
  rw [if_pos hneg, hmn]
  by_cases hwl : len a ≤ w
  ·have hz : a / 2 ^ m = 0 := by
    refine Nat.div_eq_of_lt (Nat.lt_of_lt_of_le (vt a) (Nat.le_trans (jZ hwl) ?_))
    rw [hpow]
    exact Nat.le_mul_of_pos_right _ (Nat.two_pow_pos s)
   rw [hz]
   simp [lf133, la, hneg, q0, q1', hwl, wD, jb, zy]
  ·obtain ⟨A, hA⟩ : ∃ A, A = (zc a).drop w := ⟨_, rfl⟩
   have wA : Wf A := by rw [hA]; exact wa.drop _
   have hAv : val A = a / B ^ w := by rw [hA, wP wa, zw]
   have hAl : A.length = len a - w := by rw [hA]; simp [la]
   have hAA' : List.drop w (List.map u64 (zc a)) = A.map u64 := by rw [hA, List.map_drop]
   have hAA : List.drop w (List.take (len a) (List.map u64 (zc a))) = A.map u64 := by
    rw [List.take_of_length_le (by simp [la]), hAA']
   have hwle : w ≤ len a := by omega
   have hdiv : a / 2 ^ m = val A / 2 ^ s := by rw [hAv, Nat.div_div_eq_div_mul, ← hpow]
   have hcap := wI A.length (by omega)
   rw [hdiv]
   have happ := oN (H := [zH 0 []]) (k := 0) (ver := 0) (out := []) (ys := A) rfl (by simp; omega)
   simp only [List.length_nil, Nat.zero_add, List.nil_append, List.set_cons_zero] at happ
   simp [zH, -qC] at happ
   simp [lf133, la, hneg, q0, q1', q2, q3, hwl, hwle, hAA, rI, zN, au_comp, happ, -qC]
   simp only [lf133_B0, zr]
   refine zo (fun fr H => ∃ (i : Nat) (l : List Nat), i ≤ A.length ∧ (s = 0 → i = 0) ∧ l.length = A.length ∧ Wf l ∧ val (l.take i) = val A / 2 ^ s % B ^ i ∧ l.drop i = A.drop i ∧ H = [zH 1 l] ∧
     fr 6 = .own 0 0 A.length 1 ∧ fr 7 = .p (.int .u64 s) ∧ fr 8 = .p (.int .i64 i))
    (fun fr _ => A.length - zD (fr 8)) ⟨0, A, by omega, fun _ => rfl, rfl, wA, by simp [qg, Nat.mod_one], rfl, by simp [zH], by simp, by simp, by simp⟩ ?_
   rintro fr H ⟨i, l, hi, hi0, hl, hwfl, hv, hdr, rfl, h6, h7, h8⟩
   by_cases hs0 : s = 0
   ·have hi0 := hi0 hs0
    subst hi0
    have hlA : l = A := by simpa using hdr
    subst hlA
    have hvl : val l = val l / 2 ^ s := by rw [hs0]; simp
    obtain ⟨hT, ht⟩ := jS rfl hwfl (by omega) hvl
    have hsI : ¬ (0 : Int) < s := by omega
    have hsN : ¬ 0 < s := by omega
    simp only [wD, jb] at ht
    by_cases hl0 : 0 < l.length
    ·simp [h6, h7, h8, hl0, hsN, zH, hT, ht, zO, zQ, Trt_mu, tq, wD, jb, freeze1]
    ·omega
   ·have hsI : (0 : Int) < s := by omega
    have hsN : 0 < s := by omega
    by_cases hlt : i < A.length
    ·obtain ⟨x, hx⟩ : ∃ x, A[i]? = some x := ⟨_, List.getElem?_eq_getElem hlt⟩
     have hxB := wA.get hx
     have hil : i < l.length := by omega
     have hlx : l[i]? = some x := by
      have := congrArg (fun t => t[0]?) hdr
      simp only [List.getElem?_drop, Nat.add_zero] at this
      rw [this]; exact hx
     obtain ⟨xs, hxs⟩ : ∃ t, t = x / 2 ^ s := ⟨_, rfl⟩
     have hxsB : xs < B := by rw [hxs]; exact Nat.lt_of_le_of_lt (Nat.div_le_self _ _) hxB
     have e1 : qw .shr .u64 x s = some (.int .u64 xs) := by rw [ja (by omega), hxs]
     have hlimb := so wA hx (show s ≤ 64 by omega)
     have step : ∀ t, val A / 2 ^ s / B ^ i % B = t → val ((l.set i t).take (i + 1)) = val A / 2 ^ s % B ^ (i + 1) := fun t ht => by
      rw [z3 hil, hv, aN ht]
     have hw5 := zs (i := i) (by omega)
     rw [dif_neg hs0] at hlimb
     have hdr' : ∀ t, (l.set i t).drop (i + 1) = A.drop (i + 1) := fun t => by
      rw [List.drop_set_of_lt (by omega), ← List.drop_drop, hdr, List.drop_drop]
     by_cases hlt2 : i + 1 < A.length
     ·obtain ⟨y, hy⟩ : ∃ y, A[i + 1]? = some y := ⟨_, List.getElem?_eq_getElem hlt2⟩
      have hly : l[i + 1]? = some y := by
       have := congrArg (fun t => t[1]?) hdr
       simp only [List.getElem?_drop] at this
       rw [this]; exact hy
      rw [hy] at hlimb
      simp only at hlimb
      obtain ⟨lo, hlo⟩ : ∃ t, t = y * 2 ^ (64 - s) % B := ⟨_, rfl⟩
      have hloB : lo < B := by rw [hlo]; exact Nat.mod_lt _ qf
      have e2 : qw .shl .u64 y ((64 - s : Nat) : Int) = some (.int .u64 lo) := by rw [kC (by omega), hlo]
      have e3 : IntKind.u64.wrap (64 - (s : Int)) = ((64 - s : Nat) : Int) := by rw [IntWalk.u64_in _ (by omega)]; omega
      have e4 := cJ hxsB hloB
      rw [show xs ||| lo = xs + lo by rw [hxs, hlo]; exact shr_or (by omega) hxB] at e4
      obtain ⟨t, ht⟩ : ∃ t, t = xs + lo := ⟨_, rfl⟩
      rw [← ht] at e4
      have htB : t < B := by rw [← hxs, ← hlo, ← ht] at hlimb; rw [← hlimb]; exact Nat.mod_lt _ qf
      obtain ⟨i1, hi1⟩ : ∃ k, k = i + 1 := ⟨_, rfl⟩
      rw [← hi1] at hw5 hy hly
      have hlt3 : i1 < A.length := by omega
      have hne : ¬ i = i1 := by omega
      rw [← hxs, ← hlo, ← ht] at hlimb
      simp [h6, h7, h8, hl, hlt, hlt3, zZ hlx, e1, hsN, zH, hw5]
      rw [zu]
      refine ⟨[], ?_⟩
      simp [-BitVec.toNat_or, h6, h7, h8, hl, hlt, hlt3, zZ hly, hne, e2, e3, e4, hw5, zD]
      exact ⟨⟨i1, by omega, fun h => absurd h hs0, l.set i t, by simp [hl], hwfl.set _ htB, by rw [hi1]; exact step _ hlimb, by rw [hi1]; exact hdr' t, by rw [List.map_set]; rfl, rfl⟩, by omega⟩
     ·have hy : A[i + 1]? = none := List.getElem?_eq_none (by omega)
      rw [hy] at hlimb
      simp only at hlimb
      rw [← hxs] at hlimb
      obtain ⟨i1, hi1⟩ : ∃ k, k = i + 1 := ⟨_, rfl⟩
      rw [← hi1] at hw5
      have hlt3 : ¬ i1 < A.length := by omega
      simp [h6, h7, h8, hl, hlt, hlt3, zZ hlx, e1, hsN, zH, hw5, zD]
      exact ⟨⟨i1, by omega, fun h => absurd h hs0, l.set i xs, by simp [hl], hwfl.set _ hxsB, by rw [hi1]; exact step _ hlimb, by rw [hi1]; exact hdr' xs, by rw [List.map_set]; rfl, rfl⟩, by omega⟩
    ·have hil : i = A.length := by omega
     subst hil
     have hvl : val l = val A / 2 ^ s := by
      rw [List.take_of_length_le (by omega)] at hv
      rw [hv]
      exact Nat.mod_eq_of_lt (Nat.lt_of_le_of_lt (Nat.div_le_self _ _) (ui wA))
     obtain ⟨hT, ht⟩ := jS hl hwfl (by omega) hvl
     simp only [wD, jb] at ht
     simp [h6, h8, zH, hl, hT, ht, zO, zQ, Trt_mu, tq, wD, jb, freeze1]
 ·obtain ⟨m, rfl⟩ := Int.eq_ofNat_of_zero_le (a := n) (by omega)
  obtain ⟨w, hw⟩ : ∃ w, w = m / 64 := ⟨_, rfl⟩
  obtain ⟨s, hs⟩ : ∃ s, s = m % 64 := ⟨_, rfl⟩
  have hs64 : s < 64 := by omega
  have q1' : IntKind.i64.wrap ((m : Int) / 64) = (w : Int) := by rw [IntWalk.i64_in _ (by omega)]; omega
  have q1 : IntKind.i64.wrap ((m : Int).tdiv 64) = (w : Int) := by rw [Int.tdiv_eq_ediv_of_nonneg (by omega), q1']
  have q2 : (m : Int).tmod 64 = (s : Int) := by rw [Int.tmod_eq_emod_of_nonneg (by omega)]; omega
  have q2' : (m : Int) % 64 = (s : Int) := by omega
  have q3 : IntKind.u64.wrap (s : Int) = s := IntWalk.u64_in _ (by omega)
  have hpow : 2 ^ m = B ^ w * 2 ^ s := by rw [bw, ← Nat.pow_add, show 64 * w + s = m by omega]
  have hcap := wI w (by omega)
  rw [if_neg hneg, Int.toNat_natCast]
  simp [lf133, hneg, q1', q2, q3, hcap]
  refine rup_loop (a := a) (m := m) (w := w) (s := s) hla hw hs (by omega) (by simp [zH]) (by simp) (by simp) (by simp) (by simp) (by simp) ?_
  intro fr' H l c x hl hwl hcB hv hR f9 f11
  subst f9
  have hwn : Wf (l ++ [c]) := hwl.append (Wf.cons hcB Wf.nil)
  have hvl : val (l ++ [c]) = a * 2 ^ m := by rw [uh, hl]; exact hv
  have ht := vg hwn (by simp; omega)
  rw [hvl] at ht
  obtain ⟨j, ver, H', happ, hj⟩ := mj hR c (by omega) ⟨1, 0, false, [.p (.int .u64 c)], 147⟩
  obtain ⟨L, hL⟩ : ∃ t, t = l ++ [c] := ⟨_, rfl⟩
  have hLl : l.length + 1 = L.length := by rw [hL]; simp
  rw [← hL] at ht hj
  rw [hLl] at happ
  have htk : List.take L.length (L.map u64) = L.map u64 := List.take_of_length_le (by simp)
  unfold zH at hj
  simp [f11, happ, zN, -qC]
  simp [hj, ht, htk, zO, zQ, Trt_mu, tq, wD, jb]
def bG : List PVal → Option PVal
 | [.lst xs, .lst ys] => match vM xs, vM ys with | some a, some b => if b = 0 ∨ 90000 < len a then none else some (.tup [wD (a / b), wD (a % b)]) | _, _ => none
 | _ => none
theorem dC {a b : Nat} (ha : len a ≤ 90000) (hb : len b ≤ 100000) (h0 : b ≠ 0) : bG [.lst ((zc a).map u64), .lst ((zc b).map u64)] = some (.tup [.lst ((zc (a / b)).map u64), .lst ((zc (a % b)).map u64)]) := by
 simp only [bG, zM (show len a ≤ 100000 by omega), zM hb]
 rw [if_neg (by rintro (h | h); exact h0 h; omega)]; rfl
def Tdv : Tab := ((((Tab.none.with 120 (za qX)).with 134 (za kn)).with 133 (za cA)).with 66 (za qF)).with 132 (za xd)
theorem Tdv_ok : TabOk Tryz.prog base Tdv := Tab.with_ok (Tab.with_ok (Tab.with_ok (Tab.with_ok (Tab.with_ok Tab.none_ok fM) rsub_ok) rshift_ok) ux) rbits_ok
theorem tI (f : FuncId) (a : List AVal) (H : zb) : Tdv.mu f a H = none := (rfl)
theorem mB : Tdv.fn 120 = za qX ∧ Tdv.fn 134 = za kn ∧ Tdv.fn 133 = za cA ∧ Tdv.fn 66 = za qF ∧ Tdv.fn 132 = za xd := ⟨rfl, rfl, rfl, rfl, rfl⟩
theorem bit_or {o t y : Nat} (ho : o = 2 ^ (t + 1) * y) : o ||| 2 ^ t = o + 2 ^ t := by
 rw [Nat.or_comm, ho, Nat.mul_comm (2 ^ (t + 1)) y, zab (Nat.pow_lt_pow_right (by omega) (by omega)), Nat.add_comm]
theorem bit_limb {V Q w t : Nat} (ht : t < 64) (h : V = 2 ^ (64 * w + t + 1) * Q) : ∃ y, V / B ^ w % B = 2 ^ (t + 1) * y ∧ 2 ^ (t + 1) * y + 2 ^ t < B := by
 have e : V = B ^ w * (2 ^ (t + 1) * Q) := by rw [h, bw, ← Nat.mul_assoc, ← Nat.pow_add, Nat.add_assoc]
 have h2 : B = 2 ^ (t + 1) * 2 ^ (63 - t) := by rw [← Nat.pow_add, show t + 1 + (63 - t) = 64 by omega, bO]
 refine ⟨Q % 2 ^ (63 - t), ?_, ?_⟩
 ·rw [e, Nat.mul_div_cancel_left _ (vQ w), h2, Nat.mul_mod_mul_left]
 ·have h3 : Q % 2 ^ (63 - t) + 1 ≤ 2 ^ (63 - t) := Nat.mod_lt _ (Nat.two_pow_pos _)
  have h4 := Nat.mul_le_mul_left (2 ^ (t + 1)) h3
  rw [← h2, Nat.mul_add, Nat.mul_one] at h4
  have h5 : 2 ^ t < 2 ^ (t + 1) := Nat.pow_lt_pow_right (by omega) (by omega)
  omega
theorem rdiv_ok : zG Tryz.prog base 104 (za bG) := by
 refine zd zB Tdv_ok ze low104 fun args z hs hf => ?_
 unfold bG at hs
 split at hs
 case h_2 => cases hs
 rename_i xs ys
 split at hs
 case h_2 => cases hs
 rename_i a b ha hb
 split at hs
 case isTrue => cases hs
 rename_i hc
 cases hs
 have hb0 : b ≠ 0 := fun e => hc (.inl e)
 have hla' : len a ≤ 90000 := by omega
 obtain ⟨rfl, hla⟩ := zE ha
 obtain ⟨rfl, hlb⟩ := zE hb
 refine ⟨by simp [lf104], ?_⟩
 have la : (zc a).length = len a := rfl
 have hO := jm hla hlb
 by_cases hab : a < b
 ·rw [jY hab] at hO
  simp [lf104, hO, Nat.div_eq_of_lt hab, Nat.mod_eq_of_lt hab, zy, tI, mB, wD, jb]
 ·have hcn : ¬ qm a b < 0 := fun h => by have := md.1 h; omega
  obtain ⟨c, hcc⟩ : ∃ t, t = qm a b := ⟨_, rfl⟩
  rw [← hcc] at hO hcn
  have hba : b ≤ a := by omega
  have h1 := xc hla
  have h2 := xc hlb
  have hsz := size_mono hba
  have sa : size a ≤ 64 * len a := by rw [wQ, ← bw]; exact vt a
  obtain ⟨K, hK⟩ : ∃ K, size a = size b + K := ⟨size a - size b, by omega⟩
  have w1 : IntKind.i64.wrap ((size a : Int) - size b) = ((K + 1 : Nat) : Int) - 1 := by rw [IntWalk.i64_in _ (by omega)]; omega
  have hcap := wI (len a) (by omega)
  have hbs : a < b * 2 ^ (K + 1) := by
   refine Nat.lt_of_lt_of_le (uQ a) ?_
   have h3 := size_le hb0
   have h4 := um hb0
   rw [hK, show size b + K = size b - 1 + (K + 1) by omega, Nat.pow_add]
   exact Nat.mul_le_mul_right _ h3
  simp [lf104, la, hO, hcn, h1, h2, w1, hcap, tI, mB]
  simp only [lf104_B0, zr]
  refine zo (fun fr H => ∃ (c r Q : Nat) (ql : List Nat), c ≤ K + 1 ∧ r < b * 2 ^ c ∧ a = r + b * 2 ^ c * Q ∧ ql.length = len a ∧ Wf ql ∧ val ql = 2 ^ c * Q ∧ H = [zH 0 ql] ∧
    fr 1 = .p (.lst ((zc b).map u64)) ∧ fr 6 = .own 0 0 (len a) 0 ∧ fr 7 = .p (.lst ((zc r).map u64)) ∧ fr 8 = .p (.int .i64 ((c : Int) - 1)))
   (fun fr _ => s9 (fr 8)) ⟨K + 1, a, 0, List.replicate (len a) 0, by omega, hbs, by omega, by simp, Wf.zeros _, by rw [kd]; simp, by simp [zH], by simp, by simp, by simp, by simp⟩ ?_
  rintro fr H ⟨c, r, Q, ql, hcK, hr, hA, hql, hwq, hqv, rfl, f1, f6, f7, f8⟩
  by_cases hc0 : 0 < c
  ·obtain ⟨k, rfl⟩ : ∃ m, c = m + 1 := ⟨c - 1, by omega⟩
   have e8 : (((k + 1 : Nat) : Int) - 1) = (k : Int) := by omega
   rw [e8] at f8
   have hra : r ≤ a := by rw [hA]; exact Nat.le_add_right _ _
   have hlr : len r ≤ 100000 := Nat.le_trans (qq hra) hla
   obtain ⟨s, hs⟩ : ∃ t, t = b * 2 ^ k := ⟨_, rfl⟩
   have hsh := lL (a := b) (n := k) hlb (by omega)
   rw [← hs] at hsh
   have hls : len s ≤ 100000 := by
    refine Nat.le_trans (dP (k := len a) ?_) hla
    rw [hs, bw]
    refine Nat.lt_of_lt_of_le (m := 2 ^ (size b + k)) ?_ (Nat.pow_le_pow_right (by omega) (by omega))
    rw [Nat.pow_add]
    exact Nat.mul_lt_mul_of_pos_right (uQ b) (Nat.two_pow_pos k)
   have hO2 := jm hlr hls
   obtain ⟨w, hw⟩ : ∃ w, w = k / 64 := ⟨_, rfl⟩
   obtain ⟨t, ht⟩ : ∃ t, t = k % 64 := ⟨_, rfl⟩
   have hkw : k = 64 * w + t := by omega
   have ht64 : t < 64 := by omega
   have q1' : IntKind.i64.wrap ((k : Int) / 64) = (w : Int) := by rw [IntWalk.i64_in _ (by omega)]; omega
   have q1 : IntKind.i64.wrap ((k : Int).tdiv 64) = (w : Int) := by rw [Int.tdiv_eq_ediv_of_nonneg (by omega), q1']
   have q2 : (k : Int).tmod 64 = (t : Int) := by rw [Int.tmod_eq_emod_of_nonneg (by omega)]; omega
   have q2' : (k : Int) % 64 = (t : Int) := by omega
   have q3 : IntKind.u64.wrap (t : Int) = t := IntWalk.u64_in _ (by omega)
   have w7 : IntKind.i64.wrap ((k : Int) - 1) = (k : Int) - 1 := IntWalk.i64_in _ (by omega)
   have hsb := um hb0
   have hwl : w < len a := by omega
   obtain ⟨o, ho⟩ : ∃ o, ql[w]? = some o := ⟨_, List.getElem?_eq_getElem (by omega)⟩
   have hoB := hwq.get ho
   have hov : o = val ql / B ^ w % B := by rw [← wP hwq, vC ho, Nat.add_mul_mod_self_left, Nat.mod_eq_of_lt hoB]
   obtain ⟨y, hy, hyB⟩ := bit_limb ht64 (show val ql = 2 ^ (64 * w + t + 1) * Q by rw [hqv, hkw])
   rw [← hov] at hy
   rw [← hy] at hyB
   have hor := bit_or hy
   have htB : 2 ^ t < B := by omega
   have e1 : qw .shl .u64 1 t = some (.int .u64 (2 ^ t : Nat)) := by
    have := kC (x := 1) (s := t) (by omega)
    rw [Nat.one_mul, Nat.mod_eq_of_lt htB] at this
    exact this
   have e4 := cJ hoB htB
   rw [hor] at e4
   obtain ⟨o2, ho2⟩ : ∃ t', t' = o + 2 ^ t := ⟨_, rfl⟩
   obtain ⟨tt, htt⟩ : ∃ t', t' = 2 ^ t := ⟨_, rfl⟩
   rw [← ho2] at e4 hyB
   rw [← htt] at e1 e4
   have hset := pI o2 ho
   have hb1 := bin_step (A := a) (r := r) (b := b) (P := 2 ^ k) (q := Q) (by rw [← Nat.pow_succ]; exact hA) (by rw [← Nat.pow_succ]; exact hr)
   rw [← hs] at hb1
   by_cases hle : s ≤ r
   ·obtain ⟨g1, g2⟩ := hb1.1 hle
    have hcn : ¬ qm r s < 0 := fun h => by have := md.1 h; omega
    have hcp : (0 : Int) ≤ qm r s := by omega
    obtain ⟨cc, hcc⟩ : ∃ t, t = qm r s := ⟨_, rfl⟩
    rw [← hcc] at hO2 hcp
    have hM := ut hlr hls hle
    obtain ⟨r2, hr2⟩ : ∃ t, t = r - s := ⟨_, rfl⟩
    rw [← hr2] at hM g1 g2
    have hnv : val (ql.set w o2) = 2 ^ k * (1 + 2 * Q) := by
     have e2 : B ^ w * 2 ^ t = 2 ^ k := by rw [bw, ← Nat.pow_add, hkw]
     have e3 : B ^ w * o2 = B ^ w * o + 2 ^ k := by rw [ho2, Nat.mul_add, e2]
     have e5 : 2 ^ k * (1 + 2 * Q) = 2 ^ k + 2 ^ (k + 1) * Q := by rw [Nat.mul_add, Nat.mul_one, Nat.pow_succ, Nat.mul_assoc]
     rw [e5, ← hqv]
     omega
    simp [-BitVec.toNat_or, f1, f6, f7, f8, hsh, hO2, hcp, hM, q1', q2, q3, w7, hwl, hql, zZ ho, e1, e4, zH, s9, tI, mB]
    exact ⟨k, by omega, r2, by rw [← hs]; exact g2, 1 + 2 * Q, by rw [← hs]; exact g1, ql.set w o2, by simp [hql], hwq.set _ hyB, hnv, by rw [List.map_set]; rfl, rfl, rfl⟩
   ·obtain ⟨g1, g2⟩ := hb1.2 hle
    have hcn : qm r s = -1 := jY (by omega)
    rw [hcn] at hO2
    simp [f1, f6, f7, f8, hsh, hO2, w7, zH, s9, tI, mB]
    exact ⟨k, by omega, r, by rw [← hs]; exact g2, 2 * Q, by rw [← hs]; exact g1, ql, hql, hwq, by rw [hqv, Nat.pow_succ, Nat.mul_assoc], rfl, rfl, rfl⟩
  ·have : c = 0 := by omega
   subst this
   rw [Nat.pow_zero, Nat.mul_one] at hr hA
   rw [Nat.pow_zero, Nat.one_mul] at hqv
   obtain ⟨e1, e2⟩ := hZ (a := a) (k := b) (q := Q) (r := r) (by omega) hr
   rw [← e1, ← e2]
   obtain ⟨hT, ht⟩ := jS hql hwq (by omega) hqv
   simp only [wD, jb] at ht
   simp [f6, f7, f8, zH, hql, hT, ht, zO, zQ, tI, mB, freeze1, wD, jb]
def Trg : Tab := Tab.none.with 104 (za bG)
theorem Trg_ok : TabOk Tryz.prog base Trg := Tab.with_ok Tab.none_ok rdiv_ok
theorem Trg_mu (f : FuncId) (a : List AVal) (H : zb) : Trg.mu f a H = none := (rfl)
theorem Trg_fn : Trg.fn 104 = za bG := (rfl)
def nK : List PVal → Option PVal
 | [.lst xs, .lst ys] => match vM xs, vM ys with | some a, some b => if len a ≤ 90000 ∧ len b ≤ 90000 then some (wD (Nat.gcd a b)) else none | _, _ => none
 | _ => none
theorem xk {a b : Nat} (ha : len a ≤ 90000) (hb : len b ≤ 90000) : nK [.lst ((zc a).map u64), .lst ((zc b).map u64)] = some (.lst ((zc (Nat.gcd a b)).map u64)) := by
 simp only [nK, zM (show len a ≤ 100000 by omega), zM (show len b ≤ 100000 by omega)]
 rw [if_pos ⟨ha, hb⟩]; rfl
theorem rgcd_ok : zG Tryz.prog base 103 (za nK) := by
 refine zd zB Trg_ok ze low103 fun args z hs hf => ?_
 unfold nK at hs
 split at hs
 case h_2 => cases hs
 rename_i xs ys
 split at hs
 case h_2 => cases hs
 rename_i a b ha hb
 split at hs
 case isFalse => cases hs
 rename_i hc
 obtain ⟨ca, cb⟩ := hc
 cases hs
 obtain ⟨rfl, hla⟩ := zE ha
 obtain ⟨rfl, hlb⟩ := zE hb
 refine ⟨by simp [lf103], ?_⟩
 obtain ⟨G, hG⟩ : ∃ t, t = Nat.gcd a b := ⟨_, rfl⟩
 rw [← hG]
 simp [lf103]
 simp only [lf103_B0, zr]
 refine zo (fun fr H => ∃ m n : Nat, len m ≤ 90000 ∧ len n ≤ 90000 ∧ Nat.gcd m n = G ∧ H = [] ∧ fr 0 = .p (.lst ((zc m).map u64)) ∧ fr 1 = .p (.lst ((zc n).map u64)))
  (fun fr _ => match fr 1 with | .p (.lst es) => (match vM es with | some n => n | none => 0) | _ => 0) ⟨a, b, ca, cb, hG.symm, rfl, by simp, by simp⟩ ?_
 rintro fr H ⟨m, n, hm, hn, hg, rfl, h0, h1⟩
 have ln : (zc n).length = len n := rfl
 by_cases hz : n = 0
 ·subst hz
  rw [Nat.gcd_zero_right] at hg
  subst hg
  simp [h0, h1, zy, wD, jb]
 ·have hln : len n ≠ 0 := fun e => hz (qd.1 e)
  have hlI : (0 : Int) < len n := by omega
  have hlN : 0 < len n := by omega
  have hq := dC hm (show len n ≤ 100000 by omega) hz
  have hr : len (m % n) ≤ 90000 := Nat.le_trans (qq (Nat.le_of_lt (Nat.mod_lt _ (Nat.pos_of_ne_zero hz)))) hn
  have hd1 := zM (show len n ≤ 100000 by omega)
  have hd2 := zM (show len (m % n) ≤ 100000 by omega)
  obtain ⟨r, hrr⟩ : ∃ t, t = m % n := ⟨_, rfl⟩
  rw [← hrr] at hq hr hd2
  simp [h0, h1, ln, hlN, hq, hd1, hd2, Trg_mu, Trg_fn]
  refine ⟨⟨n, hn, r, hr, ?_, rfl, rfl⟩, by rw [hrr]; exact Nat.mod_lt _ (Nat.pos_of_ne_zero hz)⟩
  rw [hrr, Nat.gcd_comm, ← Nat.gcd_rec, Nat.gcd_comm]
  exact hg
theorem sWide_iN (s : Bool) (n : Nat) : jR [.bool s, .lst ((zc n).map u64)] = some (iN (zOf s n)) := by
 obtain ⟨b, l, e, _, h⟩ := vS s n
 rw [h, e]
 rfl
theorem zOf_nat (z : Int) (d : Nat) : zOf (decide (z < 0)) (z.natAbs * d) = z * (d : Int) := by
 have h := pH z (d : Int)
 have hd : decide ((d : Int) < 0) = false := decide_eq_false (by omega)
 rw [hd, Int.natAbs_natCast, Bool.bne_false] at h
 exact h
theorem cz {n : Nat} (h : len n ≤ 100000) : qF [.lst ((zc n).map u64)] = some (.lst ((zc n).map u64)) := by
 rw [vg (zC n) (by have : (zc n).length = len n := rfl; omega), zw]
theorem rone_ok : zG Tryz.prog base 121 (za mJ) := by
 refine zd zB Tab.none_ok ze low121 fun args z hs hf => ?_
 unfold mJ at hs
 split at hs
 case h_2 => cases hs
 cases hs
 refine ⟨by simp [lf121], ?_⟩
 simp [lf121, zN]
def dh : List PVal → Option PVal
 | [.bool s, .lst xs, .lst ys] => match vM xs, vM ys with | some a, some b => if b ≠ 0 ∧ len a ≤ 80000 ∧ len b ≤ 80000 then some (ofQ (mkRat (zOf s a) b)).enc else none | _, _ => none
 | _ => none
theorem mK (s : Bool) {a b : Nat} (ha : len a ≤ 80000) (hb : len b ≤ 80000) (h0 : b ≠ 0) : dh [.bool s, .lst ((zc a).map u64), .lst ((zc b).map u64)] = some (ofQ (mkRat (zOf s a) b)).enc := by
 simp only [dh, zM (show len a ≤ 100000 by omega), zM (show len b ≤ 100000 by omega)]
 rw [if_pos ⟨h0, ha, hb⟩]
def Trq : Tab := ((Tab.none.with 103 (za nK)).with 104 (za bG)).with 66 (za qF)
theorem Trq_ok : TabOk Tryz.prog base Trq := Tab.with_ok (Tab.with_ok (Tab.with_ok Tab.none_ok rgcd_ok) rdiv_ok) ux
theorem Trq_mu (f : FuncId) (a : List AVal) (H : zb) : Trq.mu f a H = none := (rfl)
theorem Trq_fns : Trq.fn 103 = za nK ∧ Trq.fn 104 = za bG ∧ Trq.fn 66 = za qF := ⟨rfl, rfl, rfl⟩
theorem sn : zG Tryz.prog base 64 (za dh) := by
 refine zd zB Trq_ok ze low64 fun args z hs hf => ?_
 unfold dh at hs
 split at hs
 case h_2 => cases hs
 rename_i s xs ys
 split at hs
 case h_2 => cases hs
 rename_i a b ha hb
 split at hs
 case isFalse => cases hs
 rename_i hc
 obtain ⟨h0, la, lb⟩ := hc
 obtain ⟨rfl, _⟩ := zE ha
 obtain ⟨rfl, _⟩ := zE hb
 cases hs
 refine ⟨by simp [lf64], ?_⟩
 rw [ofQ_mk s a h0]
 have g1 := xk (a := a) (b := b) (by omega) (by omega)
 have hgl : len (Nat.gcd a b) ≤ 80000 := Nat.le_trans (qq (Nat.gcd_le_right _ (Nat.pos_of_ne_zero h0))) lb
 have hg0 : Nat.gcd a b ≠ 0 := fun e => h0 (Nat.gcd_eq_zero_iff.1 e).2
 obtain ⟨g, hg⟩ : ∃ g, g = Nat.gcd a b := ⟨_, rfl⟩
 rw [← hg] at g1 hgl hg0 ⊢
 have q1 := dC (a := a) (b := g) (by omega) (by omega) hg0
 have q2 := dC (a := b) (b := g) (by omega) (by omega) hg0
 have hm : len (a / g) ≤ 80000 := Nat.le_trans (qq (Nat.div_le_self _ _)) la
 have hk : len (b / g) ≤ 80000 := Nat.le_trans (qq (Nat.div_le_self _ _)) lb
 have t1 := cz (n := a / g) (by omega)
 have t2 := cz (n := b / g) (by omega)
 obtain ⟨m, hm'⟩ : ∃ m, m = a / g := ⟨_, rfl⟩
 obtain ⟨k, hk'⟩ : ∃ m, m = b / g := ⟨_, rfl⟩
 rw [← hm'] at q1 t1 ⊢
 rw [← hk'] at q2 t2 ⊢
 simp only [Fr.enc]
 cases s <;> simp [lf64, yZ, g1, q1, q2, t1, t2, Trq_mu, Trq_fns] <;> exact decide_eq_decide.2 Iff.rfl
def fitF (x : Fr) : Fr × Nat := if x.n.length ≤ 64 ∧ x.d.length ≤ 64 then (x, 0) else (zF, 4)
def fitP (x : Fr) : PVal := zU (fitF x)
theorem fit_held (q : Rat) : fitF (ofQ q) = qG q := by
 unfold fitF qG
 by_cases h : Sm 64 q
 ·rw [if_pos h]; exact if_pos h
 ·rw [if_neg h]; exact if_neg h
theorem ic (q : Rat) : f1 fitP [(ofQ q).enc] = some (zU (qG q)) := by rw [j8 (wS q), fitP, fit_held]
theorem rfitsR_ok : zG Tryz.prog base 123 (za (f1 fitP)) := by
 refine zd zB Tab.none_ok ze low123 fun args z hs hf => ?_
 obtain ⟨x, wx, rfl, rfl⟩ := ub hs
 obtain ⟨s, n, d⟩ := x
 refine ⟨by simp [lf123], ?_⟩
 simp only [Fr.enc, fitP, fitF]
 by_cases h1 : n.length ≤ 64
 ·have h1' : ¬ (64 : Int) < n.length := by omega
  by_cases h2 : d.length ≤ 64
  ·have h2' : ¬ (64 : Int) < d.length := by omega
   simp [lf123, h1, h2, h1', h2', zU, Fr.enc]
  ·have h2' : (64 : Int) < d.length := by omega
   simp [lf123, h1, h2, h1', h2', zU, zF, Fr.enc]
 ·have h1' : (64 : Int) < n.length := by omega
  simp [lf123, h1, h1', zU, zF, Fr.enc]
def Trn : Tab := (Tab.none.with 63 (za sIV)).with 64 (za dh)
theorem Trn_ok : TabOk Tryz.prog base Trn := Tab.with_ok (Tab.with_ok Tab.none_ok l5) sn
theorem oU (f : FuncId) (a : List AVal) (H : zb) : Trn.mu f a H = none := (rfl)
theorem pV : Trn.fn 63 = za sIV ∧ Trn.fn 64 = za dh := ⟨rfl, rfl⟩
theorem rnew_ok : zG Tryz.prog base 37 (za rU) := by
 refine zd zB Trn_ok ze low37 fun args z hs hf => ?_
 unfold rU at hs
 split at hs
 case h_2 => cases hs
 rename_i s xs t ys
 split at hs
 case h_2 => cases hs
 rename_i a b ha hb
 obtain ⟨rfl, wa⟩ := zI ha
 obtain ⟨rfl, wb⟩ := zI hb
 cases hs
 refine ⟨by simp [lf37], ?_⟩
 have va := bI (s := s) wa
 have vb := bI (s := t) wb
 unfold newF
 cases oa : okI s a with
 | false => rw [oa] at va; simp [lf37, va, zU, zF, Fr.enc, oU, pV]
 | true =>
  rw [oa] at va
  cases ob : okI t b with
  | false => rw [ob] at vb; simp [lf37, va, vb, zU, zF, Fr.enc, oU, pV]
  | true =>
   rw [ob] at vb
   by_cases hb0 : b = []
   ·subst hb0
    simp only [List.map_nil] at vb
    simp [lf37, va, vb, zU, zF, Fr.enc, oU, pV]
   ·obtain ⟨z, lz, rfl, rfl⟩ := sC oa
    obtain ⟨w, lw, rfl, rfl⟩ := sC ob
    rw [bA, bA]
    have hw0 : w.natAbs ≠ 0 := fun e => hb0 (by rw [e, zy])
    have hl := gT hw0
    have hS : Sm 64 (Rat.divInt z w) := nC lz lw (by omega)
    rw [bZ hS]
    unfold zl at lz lw
    have L := mK (decide (z < 0) != decide (w < 0)) (a := z.natAbs) (b := w.natAbs) (by omega) (by omega) hw0
    rw [mX] at L
    obtain ⟨R, hR⟩ : ∃ R, R = ofQ (Rat.divInt z w) := ⟨_, rfl⟩
    rw [← hR] at L ⊢
    obtain ⟨s, hs⟩ : ∃ s, s = decide (z < 0) := ⟨_, rfl⟩
    obtain ⟨t, ht⟩ : ∃ s, s = decide (w < 0) := ⟨_, rfl⟩
    rw [← hs] at va L ⊢
    rw [← ht] at vb L ⊢
    have hb : (s != t) = !(s == t) := by cases s <;> cases t <;> rfl
    simp only [zU, Fr.enc] at L ⊢
    simp [lf37, va, vb, yZ, hl, hb0, L, ← hb, oU, pV]
def Tro : Tab := (Tab.none.with 38 (za r8)).with 37 (za rU)
theorem Tro_ok : TabOk Tryz.prog base Tro := Tab.with_ok (Tab.with_ok Tab.none_ok riof_ok) rnew_ok
theorem Tro_mu (f : FuncId) (a : List AVal) (H : zb) : Tro.mu f a H = none := (rfl)
theorem Tro_fns : Tro.fn 38 = za r8 ∧ Tro.fn 37 = za rU := ⟨rfl, rfl⟩
theorem gI : zG Tryz.prog base 19 (za uK) := by
 refine zd zB Tro_ok ze low19 fun args z hs hf => ?_
 unfold uK at hs
 split at hs
 case h_2 => cases hs
 rename_i n d
 split at hs
 case isFalse => cases hs
 rename_i hc
 obtain ⟨⟨n1, n2⟩, d1, d2⟩ := hc
 cases hs
 refine ⟨by simp [lf19], ?_⟩
 by_cases h0 : d = 0
 ·subst h0
  have o1 : r8 [.int .i64 0] = some (iN 0) := cB (by decide) (by decide)
  have o2 := sIOf_one
  have N := rT (z := 0) (w := 1) (Nat.le_trans (p6 (n := 0) (by decide) (by decide)) (by omega)) (by rw [zl_one]; omega) (by decide)
  rw [ta, show ((0 : Int) : Rat) = 0 from rfl, bZ (by refine ⟨?_, ?_⟩; rw [Rat.zero_num]; show len 0 ≤ 64; rw [gR]; omega; rw [Rat.zero_den, gS]; omega)] at N
  rw [Rat.divInt_zero]
  obtain ⟨R, hR⟩ : ∃ R, R = ofQ 0 := ⟨_, rfl⟩
  rw [← hR] at N ⊢
  simp only [zU, Fr.enc] at N ⊢
  simp [lf19, o1, o2, N, Tro_mu, Tro_fns]
 ·have hb : (d == 0) = false := beq_false_of_ne h0
  have o1 := cB n1 n2
  have o2 := cB d1 d2
  have z1 := p6 n1 n2
  have z2 := p6 d1 d2
  have N := rT (z := n) (w := d) (by omega) (by omega) h0
  rw [bZ (nC (k := 64) (by omega) (by omega) (by omega))] at N
  obtain ⟨R, hR⟩ : ∃ R, R = ofQ (Rat.divInt n d) := ⟨_, rfl⟩
  rw [← hR] at N ⊢
  simp only [zU, Fr.enc] at N ⊢
  simp [lf19, hb, o1, o2, N, Tro_mu, Tro_fns]
def Trv2 : Tab := (((Tab.none.with 121 (za mJ)).with 102 (za jl)).with 120 (za qX)).with 103 (za nK)
theorem Trv2_ok : TabOk Tryz.prog base Trv2 := Tab.with_ok (Tab.with_ok (Tab.with_ok (Tab.with_ok Tab.none_ok rone_ok) xp) fM) rgcd_ok
theorem mw (f : FuncId) (a : List AVal) (H : zb) : Trv2.mu f a H = none := (rfl)
theorem co : Trv2.fn 121 = za mJ ∧ Trv2.fn 102 = za jl ∧ Trv2.fn 120 = za qX ∧ Trv2.fn 103 = za nK := ⟨rfl, rfl, rfl, rfl⟩
theorem uw : zG Tryz.prog base 85 (za (f1 wN)) := by
 refine zd zB Trv2_ok ze low85 fun args z hs hf => ?_
 obtain ⟨x, wx, rfl, rfl⟩ := ub hs
 obtain ⟨s, n, d⟩ := x
 obtain ⟨wn, wd⟩ := wx
 simp only at wn wd
 refine ⟨by simp [lf85], ?_⟩
 have v1 := jz wn
 have v2 := jz wd
 have ho := gD
 simp only [Fr.enc, wN, Fr.ok]
 cases o1 : okL n with
 | false => rw [o1] at v1; simp [lf85, v1, mw, co]
 | true =>
  rw [o1] at v1
  cases o2 : okL d with
  | false => rw [o2] at v2; simp [lf85, v1, v2, mw, co]
  | true =>
   rw [o2] at v2
   obtain ⟨a, rfl, ha⟩ := uB o1
   obtain ⟨b, rfl, hb⟩ := uB o2
   rw [zw, zw]
   by_cases b0 : b = 0
   ·subst b0
    rw [zy] at v2 ⊢
    simp only [List.map_nil] at v2 ⊢
    simp [lf85, v1, v2, mw, co]
   ·have lb := aV b0
    have lbI : (0 : Int) < len b := by omega
    have c2 := xk (a := a) (b := b) (by omega) (by omega)
    have hg : len (Nat.gcd a b) ≤ 100000 := Nat.le_trans (qq (Nat.gcd_le_right _ (Nat.pos_of_ne_zero b0))) (by omega)
    have c3 := yL hg
    obtain ⟨g, hgg⟩ : ∃ g, g = Nat.gcd a b := ⟨_, rfl⟩
    rw [← hgg] at c2 c3 ⊢
    have e2 : (qm g 1 == 0) = (g == 1) := mc (n := g)
    obtain ⟨r, hr⟩ : ∃ p, p = qm g 1 := ⟨_, rfl⟩
    rw [← hr] at c3 e2
    have hb0' : decide (b ≠ 0) = true := decide_eq_true b0
    rw [hb0']
    by_cases a0 : a = 0
    ·subst a0
     rw [zy] at v1 c2 ⊢
     simp only [List.map_nil] at v1 c2 ⊢
     cases s <;> simp [lf85, v1, v2, yZ, lb, ho, c2, c3, e2, mw, co]
    ·have la := aV a0
     have laI : (0 : Int) < len a := by omega
     cases s <;> simp [lf85, v1, v2, yZ, la, lb, ho, c2, c3, e2, a0, mw, co]
def xm : List PVal → Option PVal
 | [a, b] => match dS a, dS b with | some x, some y => if x.ok ∧ y.ok then some (.int .i64 (yu x.q y.q)) else none | _, _ => none
 | _ => none
theorem sCmpR_num {p q : Rat} (hp : Sm 64 p) (hq : Sm 64 q) : xm [(ofQ p).enc, (ofQ q).enc] = some (.int .i64 (yu p q)) := by
 simp only [xm, jf (wS p), jf (wS q)]
 rw [if_pos ⟨vH hp, vH hq⟩, vG, vG]
def Trc : Tab := (((Tab.none.with 124 (za wB)).with 65 (za jR)).with 159 (za rO)).with 145 (za kf)
theorem Trc_ok : TabOk Tryz.prog base Trc := Tab.with_ok (Tab.with_ok (Tab.with_ok (Tab.with_ok Tab.none_ok fJ) mP) ricmp_ok) riadd_ok
theorem Trc_mu (f : FuncId) (a : List AVal) (H : zb) : Trc.mu f a H = none := (rfl)
theorem Trc_fns : Trc.fn 124 = za wB ∧ Trc.fn 65 = za jR ∧ Trc.fn 159 = za rO ∧ Trc.fn 145 = za kf := ⟨rfl, rfl, rfl, rfl⟩
theorem mulW {z : Int} {d : Nat} (hz : zl z ≤ 64) (hd : len d ≤ 64) : wB [.lst ((zc z.natAbs).map u64), .lst ((zc d).map u64)] = some (.lst ((zc (z.natAbs * d)).map u64)) ∧
  jR [.bool (decide (z < 0)), .lst ((zc (z.natAbs * d)).map u64)] = some (iN (z * (d : Int))) := by
 unfold zl at hz
 refine ⟨wz (by omega) (by omega), ?_⟩
 rw [sWide_iN, zOf_nat]
theorem rcmpR_ok : zG Tryz.prog base 146 (za xm) := by
 refine zd zB Trc_ok ze low146 fun args z hs hf => ?_
 unfold xm at hs
 split at hs
 case h_2 => cases hs
 rename_i v w
 split at hs
 case h_2 => cases hs
 rename_i x y hx hy
 obtain ⟨rfl, wx⟩ := vn hx
 obtain ⟨rfl, wy⟩ := vn hy
 split at hs
 case isFalse => cases hs
 rename_i hok
 cases hs
 obtain ⟨p, hp, rfl⟩ := Fr.ok_of hok.1
 obtain ⟨q, hq, rfl⟩ := Fr.ok_of hok.2
 refine ⟨by simp [lf146], ?_⟩
 rw [vG, vG]
 obtain ⟨m1, w1⟩ := mulW (tL hp) hq.2
 obtain ⟨m2, w2⟩ := mulW (tL hq) hp.2
 have zp := tL hp
 have zq := tL hq
 have dp := Sm_d hp
 have dq := Sm_d hq
 have l1 := mD (z := p.num) (w := q.den)
 have l2 := mD (z := q.num) (w := p.den)
 have o := sWOrd_num (z := p.num * q.den) (w := q.num * p.den) (by omega) (by omega)
 rw [show uc (p.num * q.den) (q.num * p.den) = yu p q from rfl] at o
 simp only [be]
 simp [lf146, m1, w1, m2, w2, o, Trc_mu, Trc_fns]
def Trc2 : Tab := (Tab.none.with 85 (za (f1 wN))).with 146 (za xm)
theorem Trc2_ok : TabOk Tryz.prog base Trc2 := Tab.with_ok (Tab.with_ok Tab.none_ok uw) rcmpR_ok
theorem oX (f : FuncId) (a : List AVal) (H : zb) : Trc2.mu f a H = none := (rfl)
theorem tC : Trc2.fn 85 = za (f1 wN) ∧ Trc2.fn 146 = za xm := ⟨rfl, rfl⟩
theorem rCmp_ok : zG Tryz.prog base 126 (za (f2 oK)) := by
 refine zd zB Trc2_ok ze low126 fun args z hs hf => ?_
 obtain ⟨x, y, wx, wy, rfl, rfl⟩ := uT hs
 refine ⟨by simp [lf126], ?_⟩
 have v1 := vF wx
 have v2 := vF wy
 cases ox : x.ok with
 | false => rw [ox] at v1; simp only [Fr.enc] at v1 ⊢; simp [lf126, v1, oK, cmpF, ox, oX, tC]
 | true =>
  rw [ox] at v1
  cases oy : y.ok with
  | false => rw [oy] at v2; simp only [Fr.enc] at v1 v2 ⊢; simp [lf126, v1, v2, oK, cmpF, ox, oy, oX, tC]
  | true =>
   rw [oy] at v2
   obtain ⟨p, hp, rfl⟩ := Fr.ok_of ox
   obtain ⟨q, hq, rfl⟩ := Fr.ok_of oy
   have e : oK (ofQ p) (ofQ q) = .int .i64 (yu p q) := by unfold oK; rw [cmpF_num hp hq]
   have c := sCmpR_num hp hq
   rw [e]
   simp only [Fr.enc] at v1 v2 c ⊢
   simp [lf126, v1, v2, c, oX, tC]
def Trs2 : Tab := (Tab.none.with 19 (za uK)).with 126 (za (f2 oK))
theorem Trs2_ok : TabOk Tryz.prog base Trs2 := Tab.with_ok (Tab.with_ok Tab.none_ok gI) rCmp_ok
theorem Trs2_mu (f : FuncId) (a : List AVal) (H : zb) : Trs2.mu f a H = none := (rfl)
theorem Trs2_fns : Trs2.fn 19 = za uK ∧ Trs2.fn 126 = za (f2 oK) := ⟨rfl, rfl⟩
theorem Sm0 : Sm 64 (0 : Rat) := by
 refine ⟨?_, ?_⟩
 ·rw [Rat.zero_num]; show len 0 ≤ 64; rw [gR]; omega
 ·rw [Rat.zero_den, gS]; omega
theorem rSign_ok : zG Tryz.prog base 89 (za (f1 wG)) := by
 refine zd zB Trs2_ok ze low89 fun args z hs hf => ?_
 obtain ⟨x, wx, rfl, rfl⟩ := ub hs
 refine ⟨by simp [lf89], ?_⟩
 have o := sQOf_num (n := 0) (d := 1) 0 (by omega) (by omega) (by rw [ta]; rfl)
 have c : f2 oK [x.enc, (ofQ 0).enc] = some (.int .i64 (zW x)) := by
  rw [pe wx (wS 0)]
  unfold oK cmpF zW
  rw [vH Sm0, vG, Bool.and_true]
 obtain ⟨y, hy⟩ : ∃ y, y = ofQ 0 := ⟨_, rfl⟩
 rw [← hy] at o c
 unfold wG
 obtain ⟨k, hk⟩ : ∃ k, k = zW x := ⟨_, rfl⟩
 rw [← hk] at c ⊢
 simp only [Fr.enc] at o c ⊢
 simp [lf89, o, c, Trs2_mu, Trs2_fns]
def Trg2 : Tab := (Tab.none.with 85 (za (f1 wN))).with 66 (za qF)
theorem Trg2_ok : TabOk Tryz.prog base Trg2 := Tab.with_ok (Tab.with_ok Tab.none_ok uw) ux
theorem oW (f : FuncId) (a : List AVal) (H : zb) : Trg2.mu f a H = none := (rfl)
theorem tz : Trg2.fn 85 = za (f1 wN) ∧ Trg2.fn 66 = za qF := ⟨rfl, rfl⟩
theorem rNeg_ok : zG Tryz.prog base 84 (za (f1 bS)) := by
 refine zd zB Trg2_ok ze low84 fun args z hs hf => ?_
 obtain ⟨x, wx, rfl, rfl⟩ := ub hs
 refine ⟨by simp [lf84], ?_⟩
 have v1 := vF wx
 cases ox : x.ok with
 | false => rw [ox] at v1; simp only [Fr.enc] at v1 ⊢; simp [lf84, v1, bS, yX, ox, zF, Fr.enc, oW, tz]
 | true =>
  rw [ox] at v1
  obtain ⟨p, hp, rfl⟩ := Fr.ok_of ox
  have e : bS (ofQ p) = (ofQ (-p)).enc := by unfold bS; rw [gO hp]
  rw [e, ofQ_neg]
  have c1 := cz (n := p.num.natAbs) (by have := hp.1; omega)
  have c2 := cz (n := p.den) (by have := hp.2; omega)
  obtain ⟨s, hs⟩ : ∃ s, s = decide (p.num < 0) := ⟨_, rfl⟩
  rw [be, ← hs] at v1 ⊢
  simp [lf84, v1, zu, Fr.enc, oW, tz]
  refine ⟨[], ?_⟩
  cases s <;> simp [c1, c2, yZ, oW, tz] <;> exact decide_eq_decide.2 Iff.rfl
def xo : List PVal → Option PVal
 | [a, b] => match dS a, dS b with | some x, some y => if x.ok ∧ y.ok then some (ofQ (x.q + y.q)).enc else none | _, _ => none
 | _ => none
theorem sAddR_num {p q : Rat} (hp : Sm 64 p) (hq : Sm 64 q) : xo [(ofQ p).enc, (ofQ q).enc] = some (ofQ (p + q)).enc := by
 simp only [xo, jf (wS p), jf (wS q)]
 rw [if_pos ⟨vH hp, vH hq⟩, vG, vG]
def Tra : Tab := Trc.with 64 (za dh)
theorem Tra_ok : TabOk Tryz.prog base Tra := Tab.with_ok Trc_ok sn
theorem Tra_mu (f : FuncId) (a : List AVal) (H : zb) : Tra.mu f a H = none := (rfl)
theorem oY : Tra.fn 64 = za dh ∧ Tra.fn 124 = za wB ∧ Tra.fn 65 = za jR ∧ Tra.fn 159 = za rO ∧ Tra.fn 145 = za kf := ⟨rfl, rfl, rfl, rfl, rfl⟩
theorem raddR_ok : zG Tryz.prog base 125 (za xo) := by
 refine zd zB Tra_ok ze low125 fun args z hs hf => ?_
 unfold xo at hs
 split at hs
 case h_2 => cases hs
 rename_i v w
 split at hs
 case h_2 => cases hs
 rename_i x y hx hy
 obtain ⟨rfl, wx⟩ := vn hx
 obtain ⟨rfl, wy⟩ := vn hy
 split at hs
 case isFalse => cases hs
 rename_i hok
 cases hs
 obtain ⟨p, hp, rfl⟩ := Fr.ok_of hok.1
 obtain ⟨q, hq, rfl⟩ := Fr.ok_of hok.2
 refine ⟨by simp [lf125], ?_⟩
 rw [vG, vG]
 obtain ⟨m1, w1⟩ := mulW (tL hp) hq.2
 obtain ⟨m2, w2⟩ := mulW (tL hq) hp.2
 have zp := tL hp
 have zq := tL hq
 have dp := Sm_d hp
 have dq := Sm_d hq
 have l1 := mD (z := p.num) (w := q.den)
 have l2 := mD (z := q.num) (w := p.den)
 have o := rN (z := p.num * q.den) (w := q.num * p.den) (by omega) (by omega)
 have l3 := zl_add (z := p.num * q.den) (w := q.num * p.den)
 have hpd := hp.2
 have hqd := hq.2
 have dd : wB [.lst ((zc p.den).map u64), .lst ((zc q.den).map u64)] = some (.lst ((zc (p.den * q.den)).map u64)) := wz (by omega) (by omega)
 have l4 := ua p.den q.den
 have lw := mK (decide (p.num * q.den + q.num * p.den < 0)) (a := (p.num * q.den + q.num * p.den).natAbs) (b := p.den * q.den) (by unfold zl at *; omega) (by omega) (Nat.mul_ne_zero p.den_nz q.den_nz)
 rw [vB, add_mk] at lw
 obtain ⟨w, hw⟩ : ∃ w, w = p.num * q.den + q.num * p.den := ⟨_, rfl⟩
 rw [← hw] at o lw
 obtain ⟨R, hR⟩ : ∃ R, R = ofQ (p + q) := ⟨_, rfl⟩
 rw [← hR] at lw ⊢
 rw [iN_case w] at o
 simp only [be]
 simp only [Fr.enc] at lw ⊢
 simp [lf125, zu, Tra_mu, oY]
 refine ⟨[], ?_⟩
 simp [m1, w1, m2, w2, o, zu, Tra_mu, oY]
 refine ⟨fun k hk => by match k, hk with | 0, _ => rfl | 1, _ => rfl | 2, _ => rfl, [], ?_⟩
 simp [dd, lw, Tra_mu, oY]
def Trtq : Tab := (((((Tab.none.with 85 (za (f1 wN))).with 125 (za xo)).with 123 (za (f1 fitP))).with 84 (za (f1 bS))).with 124 (za wB)).with 64 (za dh)
theorem Trtq_ok : TabOk Tryz.prog base Trtq := Tab.with_ok (Tab.with_ok (Tab.with_ok (Tab.with_ok (Tab.with_ok (Tab.with_ok Tab.none_ok uw) raddR_ok) rfitsR_ok) rNeg_ok) fJ) sn
theorem bo (f : FuncId) (a : List AVal) (H : zb) : Trtq.mu f a H = none := (rfl)
theorem uI : Trtq.fn 85 = za (f1 wN) ∧ Trtq.fn 125 = za xo ∧ Trtq.fn 123 = za (f1 fitP) ∧ Trtq.fn 84 = za (f1 bS) ∧ Trtq.fn 124 = za wB ∧ Trtq.fn 64 = za dh := ⟨rfl, rfl, rfl, rfl, rfl, rfl⟩
theorem rAdd_ok : zG Tryz.prog base 88 (za (f2 cZ)) := by
 refine zd zB Trtq_ok ze low88 fun args z hs hf => ?_
 obtain ⟨x, y, wx, wy, rfl, rfl⟩ := uT hs
 refine ⟨by simp [lf88], ?_⟩
 have v1 := vF wx
 have v2 := vF wy
 cases ox : x.ok with
 | false => rw [ox] at v1; simp only [Fr.enc] at v1 ⊢; simp [lf88, v1, cZ, v9, ox, zU, zF, Fr.enc, bo, uI]
 | true =>
  rw [ox] at v1
  cases oy : y.ok with
  | false => rw [oy] at v2; simp only [Fr.enc] at v1 v2 ⊢; simp [lf88, v1, v2, cZ, v9, ox, oy, zU, zF, Fr.enc, bo, uI]
  | true =>
   rw [oy] at v2
   obtain ⟨p, hp, rfl⟩ := Fr.ok_of ox
   obtain ⟨q, hq, rfl⟩ := Fr.ok_of oy
   have e : cZ (ofQ p) (ofQ q) = zU (qG (p + q)) := by unfold cZ; rw [tj hp hq]
   rw [e]
   have a := sAddR_num hp hq
   have f := ic (p + q)
   obtain ⟨R, hR⟩ : ∃ R, R = qG (p + q) := ⟨_, rfl⟩
   obtain ⟨S, hS⟩ : ∃ S, S = ofQ (p + q) := ⟨_, rfl⟩
   rw [← hR, ← hS] at f
   rw [← hS] at a
   rw [← hR]
   simp only [zU, Fr.enc] at v1 v2 a f ⊢
   simp [lf88, v1, v2, a, f, bo, uI]
theorem rMul_ok : zG Tryz.prog base 87 (za (f2 cX)) := by
 refine zd zB Trtq_ok ze low87 fun args z hs hf => ?_
 obtain ⟨x, y, wx, wy, rfl, rfl⟩ := uT hs
 refine ⟨by simp [lf87], ?_⟩
 have v1 := vF wx
 have v2 := vF wy
 cases ox : x.ok with
 | false => rw [ox] at v1; simp only [Fr.enc] at v1 ⊢; simp [lf87, v1, cX, vZ, ox, zU, zF, Fr.enc, bo, uI]
 | true =>
  rw [ox] at v1
  cases oy : y.ok with
  | false => rw [oy] at v2; simp only [Fr.enc] at v1 v2 ⊢; simp [lf87, v1, v2, cX, vZ, ox, oy, zU, zF, Fr.enc, bo, uI]
  | true =>
   rw [oy] at v2
   obtain ⟨p, hp, rfl⟩ := Fr.ok_of ox
   obtain ⟨q, hq, rfl⟩ := Fr.ok_of oy
   have e : cX (ofQ p) (ofQ q) = zU (qG (p * q)) := by unfold cX; rw [aM hp hq]
   rw [e]
   obtain ⟨a1, a2⟩ := hp
   obtain ⟨b1, b2⟩ := hq
   have t1 := wz (a := p.num.natAbs) (b := q.num.natAbs) (by omega) (by omega)
   have t2 := wz (a := p.den) (b := q.den) (by omega) (by omega)
   have l1 := ua p.num.natAbs q.num.natAbs
   have l2 := ua p.den q.den
   have lw := mK (decide (p.num < 0) != decide (q.num < 0)) (a := p.num.natAbs * q.num.natAbs) (b := p.den * q.den) (by omega) (by omega) (Nat.mul_ne_zero p.den_nz q.den_nz)
   rw [pH, mul_mk] at lw
   have f := ic (p * q)
   obtain ⟨R, hR⟩ : ∃ R, R = qG (p * q) := ⟨_, rfl⟩
   obtain ⟨S, hS⟩ : ∃ S, S = ofQ (p * q) := ⟨_, rfl⟩
   rw [← hR, ← hS] at f
   rw [← hS] at lw
   rw [← hR]
   obtain ⟨s, hs⟩ : ∃ s, s = decide (p.num < 0) := ⟨_, rfl⟩
   obtain ⟨t, ht⟩ : ∃ s, s = decide (q.num < 0) := ⟨_, rfl⟩
   simp only [be, ← hs, ← ht] at v1 v2 lw f ⊢
   simp only [zU, Fr.enc] at lw f ⊢
   have hb : (s != t) = !(s == t) := by cases s <;> cases t <;> rfl
   simp [lf87, v1, v2, zu, bo, uI]
   refine ⟨[], ?_⟩
   simp [t1, t2, lw, f, ← hb, bo, uI]
theorem db {α} {s : List α} {i : Nat} {c : α} (h : s[i]? = some c) : s.take (i + 1) = s.take i ++ [c] := by
 rw [List.take_add_one, h]; rfl
end Go.Proofs.YtgbjjikaenlkmaaGreat

namespace Go.Proofs.YtgbjjikaenlkmaaGreat
open Go Go.Abs Go.Limbs
set_option maxRecDepth 20000
structure Pa where
 c : Fr
 t : Int
structure Po where
 ps : List Pa
 c : Fr
def Pa.wf (x : Pa) : Prop := x.c.wf
def Pa.enc (x : Pa) : PVal := .agg [.bool x.c.s, .lst (x.c.n.map u64), .lst (x.c.d.map u64), .int .i64 x.t]
def x9 (l : List Pa) : Prop := ∀ x ∈ l, x.wf
def Po.wf (p : Po) : Prop := x9 p.ps ∧ p.c.wf
def Po.enc (p : Po) : PVal := .agg [.lst (p.ps.map Pa.enc), .bool p.c.s, .lst (p.c.n.map u64), .lst (p.c.d.map u64)]
def iu : PVal → Option Pa
 | .agg [.bool s, .lst xs, .lst ys, .int .i64 t] => match jJ xs, jJ ys with | some l, some m => some ⟨⟨s, l, m⟩, t⟩ | _, _ => none
 | _ => none
theorem decPa_enc {x : Pa} (h : x.wf) : iu x.enc = some x := by simp only [iu, Pa.enc, zX h.1, zX h.2]
theorem decPa_some {v : PVal} {x : Pa} (h : iu v = some x) : v = x.enc ∧ x.wf := by
 unfold iu at h
 split at h
 ·rename_i s xs ys t
  split at h
  ·rename_i l m hl hm
   cases h
   obtain ⟨rfl, wl⟩ := zI hl
   obtain ⟨rfl, wm⟩ := zI hm
   exact ⟨rfl, wl, wm⟩
  ·cases h
 ·cases h
def tc : List PVal → Option (List Pa)
 | [] => some []
 | v :: r => match iu v, tc r with | some x, some l => some (x :: l) | _, _ => none
theorem nh : ∀ {l : List Pa}, x9 l → tc (l.map Pa.enc) = some l
 | [], _ => rfl
 | x :: r, h => by simp only [List.map_cons, tc, decPa_enc (h x (by simp)), nh (l := r) (fun y hy => h y (by simp [hy]))]
theorem dR : ∀ {vs : List PVal} {l : List Pa}, tc vs = some l → vs = l.map Pa.enc ∧ x9 l
 | [], l, h => by cases h; exact ⟨rfl, fun x hx => by cases hx⟩
 | v :: r, l, h => by
  unfold tc at h
  split at h
  ·rename_i x m hx hm
   cases h
   obtain ⟨rfl, wx⟩ := decPa_some hx
   obtain ⟨rfl, wm⟩ := dR hm
   refine ⟨rfl, fun y hy => ?_⟩
   rcases List.mem_cons.1 hy with rfl | hy
   ·exact wx
   ·exact wm y hy
  ·cases h
def kU : PVal → Option Po
 | .agg [.lst vs, .bool s, .lst xs, .lst ys] => match tc vs, jJ xs, jJ ys with | some ps, some l, some m => some ⟨ps, ⟨s, l, m⟩⟩ | _, _, _ => none
 | _ => none
theorem jF {p : Po} (h : p.wf) : kU p.enc = some p := by simp only [kU, Po.enc, nh h.1, zX h.2.1, zX h.2.2]
theorem vL {v : PVal} {p : Po} (h : kU v = some p) : v = p.enc ∧ p.wf := by
 unfold kU at h
 split at h
 ·rename_i vs s xs ys
  split at h
  ·rename_i ps l m hp hl hm
   cases h
   obtain ⟨rfl, wp⟩ := dR hp
   obtain ⟨rfl, wl⟩ := zI hl
   obtain ⟨rfl, wm⟩ := zI hm
   exact ⟨rfl, wp, wl, wm⟩
  ·cases h
 ·cases h
def g1 (g : Po → PVal) : List PVal → Option PVal
 | [a] => match kU a with | some p => some (g p) | none => none
 | _ => none
def g2 (g : Po → Po → PVal) : List PVal → Option PVal
 | [a, b] => match kU a, kU b with | some p, some q => some (g p q) | _, _ => none
 | _ => none
def gk (g : Po → Fr → PVal) : List PVal → Option PVal
 | [a, b] => match kU a, dS b with | some p, some k => some (g p k) | _, _ => none
 | _ => none
def gi (g : Po → Int → PVal) : List PVal → Option PVal
 | [a, .int .i64 t] => match kU a with | some p => some (g p t) | _ => none
 | _ => none
theorem sU {g : Po → PVal} {p : Po} (h : p.wf) : g1 g [p.enc] = some (g p) := by simp only [g1, jF h]
theorem oo {g : Po → PVal} {args : List PVal} {z : PVal} (h : g1 g args = some z) : ∃ p : Po, p.wf ∧ args = [p.enc] ∧ z = g p := by
 unfold g1 at h
 split at h
 ·split at h
  ·rename_i p hp
   obtain ⟨rfl, w⟩ := vL hp
   cases h
   exact ⟨p, w, rfl, rfl⟩
  ·cases h
 ·cases h
def Po.few (p : Po) : Bool := decide (p.ps.length ≤ 1000000)
def g2s (g : Po → Po → PVal) : List PVal → Option PVal
 | [a, b] => match kU a, kU b with | some p, some q => if (p.few && q.few) = true then some (g p q) else none | _, _ => none
 | _ => none
def gks (g : Po → Fr → PVal) : List PVal → Option PVal
 | [a, b] => match kU a, dS b with | some p, some k => if p.few = true then some (g p k) else none | _, _ => none
 | _ => none
theorem sZ {p : Po} (h : p.few = true) : p.ps.length ≤ 1000000 := of_decide_eq_true h
theorem g2s_at {g : Po → Po → PVal} {p q : Po} (h : p.wf) (h2 : q.wf) (f1 : p.few = true) (f2 : q.few = true) : g2s g [p.enc, q.enc] = some (g p q) := by simp only [g2s, jF h, jF h2, f1, f2, Bool.and_self, if_true]
theorem gks_at {g : Po → Fr → PVal} {p : Po} {k : Fr} (h : p.wf) (h2 : k.wf) (f1 : p.few = true) : gks g [p.enc, k.enc] = some (g p k) := by simp only [gks, jF h, jf h2, f1, if_true]
theorem g2s_some {g : Po → Po → PVal} {args : List PVal} {z : PVal} (h : g2s g args = some z) : ∃ p q : Po, p.wf ∧ q.wf ∧ p.few = true ∧ q.few = true ∧ args = [p.enc, q.enc] ∧ z = g p q := by
 unfold g2s at h
 split at h
 ·split at h
  ·rename_i p q hp hq
   obtain ⟨rfl, w⟩ := vL hp
   obtain ⟨rfl, w2⟩ := vL hq
   split at h
   ·rename_i hf
    rw [Bool.and_eq_true] at hf
    cases h; exact ⟨p, q, w, w2, hf.1, hf.2, rfl, rfl⟩
   ·cases h
  ·cases h
 ·cases h
theorem gks_some {g : Po → Fr → PVal} {args : List PVal} {z : PVal} (h : gks g args = some z) : ∃ (p : Po) (k : Fr), p.wf ∧ k.wf ∧ p.few = true ∧ args = [p.enc, k.enc] ∧ z = g p k := by
 unfold gks at h
 split at h
 ·split at h
  ·rename_i p q hp hq
   obtain ⟨rfl, w⟩ := vL hp
   obtain ⟨rfl, w2⟩ := vn hq
   split at h
   ·cases h; exact ⟨p, q, w, w2, by assumption, rfl, rfl⟩
   ·cases h
  ·cases h
 ·cases h
def qL : Int → List Pa → Bool
 | _, [] => true
 | l, x :: r => decide (l < x.t) && x.c.ok && !decide (x.c.n = []) && qL x.t r
def Po.ok (p : Po) : Bool := qL (-1) p.ps && p.c.ok
theorem jP {x : Fr} (h : x.ok = true) : (zW x == 0) = decide (x.n = []) := by
 obtain ⟨q, hq, rfl⟩ := Fr.ok_of h
 rw [yh hq]
 have e : ((ofQ q).n = []) ↔ q = 0 := by
  show zc q.num.natAbs = [] ↔ q = 0
  rw [jW, Int.natAbs_eq_zero, Rat.num_eq_zero]
 rw [show decide ((ofQ q).n = []) = decide (q = 0) from decide_eq_decide.2 e]
 rw [Bool.eq_iff_iff, beq_iff_eq, decide_eq_true_eq]
 exact dt
def zPo : Po := ⟨[], zF⟩
theorem jK : zPo.wf := ⟨fun x hx => (by cases hx), br⟩
def mT (r : Po × Nat) : PVal := .tup [r.1.enc, .int .i64 r.2]
def yW (p : Po) : PVal := .bool p.ok
def qJ : List Pa → List Pa → Option (List Pa)
 | [], r => some r
 | x :: l, [] => some (x :: l)
 | x :: l, y :: r =>
  if x.t < y.t then (qJ l (y :: r)).map (x :: ·)
  else if y.t < x.t then (qJ (x :: l) r).map (y :: ·)
  else if (v9 x.c y.c).2 = 0 then
   (qJ l r).map (fun m => if (v9 x.c y.c).1.n = [] then m else ⟨(v9 x.c y.c).1, x.t⟩ :: m)
  else none
termination_by l r => l.length + r.length
def da (c : Fr) : Option (List Pa) → Po × Nat
 | some ps => (⟨ps, c⟩, 0)
 | none => (zPo, 4)
def iW (p q : Po) : Po × Nat :=
 if p.ok && q.ok then (if (v9 p.c q.c).2 = 0 then da (v9 p.c q.c).1 (qJ p.ps q.ps) else (zPo, 4)) else (zPo, 1)
def kM (k : Fr) : List Pa → Option (List Pa)
 | [] => some []
 | x :: l => if (vZ x.c k).2 = 0 then (kM k l).map (⟨(vZ x.c k).1, x.t⟩ :: ·) else none
def kx (p : Po) (k : Fr) : Po × Nat :=
 if p.ok && k.ok then (if (vZ p.c k).2 = 0 then (if k.n = [] then (⟨[], (vZ p.c k).1⟩, 0) else da (vZ p.c k).1 (kM k p.ps)) else (zPo, 4)) else (zPo, 1)
def fg (lk : Int → Fr) : List Pa → Fr → Fr × Nat
 | [], s => (s, 0)
 | x :: l, s => if (vZ x.c (lk x.t)).2 = 0 then (if (v9 s (vZ x.c (lk x.t)).1).2 = 0 then fg lk l (v9 s (vZ x.c (lk x.t)).1).1 else (zF, 4)) else (zF, 4)
def kV (lk : Int → Fr) (p : Po) : Fr × Nat :=
 if p.ok && p.ps.all (fun x => (lk x.t).ok) then fg lk p.ps p.c else (zF, 1)
instance : DecidableEq Fr := fun x y => if h : x.s = y.s ∧ x.n = y.n ∧ x.d = y.d then .isTrue (by cases x; cases y; obtain ⟨a, b, c⟩ := h; simp_all) else .isFalse (fun e => h (by rw [e]; exact ⟨rfl, rfl, rfl⟩))
instance : DecidableEq Pa := fun x y => if h : x.c = y.c ∧ x.t = y.t then .isTrue (by cases x; cases y; obtain ⟨a, b⟩ := h; simp_all) else .isFalse (fun e => h (by rw [e]; exact ⟨rfl, rfl⟩))
instance : DecidableEq Po := fun x y => if h : x.ps = y.ps ∧ x.c = y.c then .isTrue (by cases x; cases y; obtain ⟨a, b⟩ := h; simp_all) else .isFalse (fun e => h (by rw [e]; exact ⟨rfl, rfl⟩))
end Go.Proofs.YtgbjjikaenlkmaaGreat

namespace Go.Proofs.YtgbjjikaenlkmaaGreat
open Go Go.Abs
def lf44_B0 : LCode := .block 0 (.loop (.seq (.seq (.region [Om 35 6,Oa 36 (.len (Tm 35)),Oa 37 (.bin .gtr (Tm 36) (Kz 0)),Om 38 37,Oo 39 38 7,Od 40 38 (.len (Tm 39)),Od 41 38 (.bin .gtr (Tm 40) (Kz 0)),Ou 42 38 41]) (.cond (Tm 42) (.skip) (.exit 0))) (.block 1 (.seq (.region [Oa 8 (.newv 4 93 (.cst (.agg [.p (.bool false),.tight [],.tight [],.p (.int .i64 0)])))]) (.seq (.block 2 (.seq (.regionD [Om 70 7,Oa 71 (.len (Tm 70)),Oa 72 (.bin .eql (Tm 71) (Kz 0)),Om 73 72,Oo 74 73 6,Od 75 73 (.len (Tm 74)),Od 76 73 (.bin .gtr (Tm 75) (Kz 0)),Oo 77 73 76,Oj 78 77 6,Oc 79 77 (.iadr 4 (Tm 78) (Kz 0)),Oc 80 77 (.fadr 3 (Tm 79)),Oc 81 77 (.load 1 false (Tm 80)),Oj 82 77 7,Oc 83 77 (.iadr 4 (Tm 82) (Kz 0)),Oc 84 77 (.fadr 3 (Tm 83)),Oc 85 77 (.load 1 false (Tm 84)),Oc 86 77 (.bin .lss (Tm 81) (Tm 85)),Od 87 73 (.pick (Tm 77) (Tm 86) Kg),Ou 88 73 87,Om 69 88]) (.cond (Tm 69) (.regionW [(Om 89 6,.f),(Oa 90 (.iadr 4 (Tm 89) (Kz 0)),.f),(Oz 91 0 90,.f),(Oq 92 3 true 91,.f),(Oa 93 (.call 75 [Tm 92]),.s),(Om 94 6,.f),(Oa 95 (.iadr 4 (Tm 94) (Kz 0)),.s),(Oz 96 3 95,.s),(Oq 97 1 false 96,.s),(Oa 98 (.build (.agg [.p (.bool false),.tight [],.tight [],.p (.int .i64 0)]) [(0,3,(Tm 93)),(3,1,(Tm 97))]),.f),(Om 99 6,.f),(Oa 100 (.slSl 4 (Tm 99) (some (Kz 1)) none none),.s),(Oy 4 8 98,.s),(Om 6 100,.f)]) (.seq (.regionD [Om 102 6,Oa 103 (.len (Tm 102)),Oa 104 (.bin .eql (Tm 103) (Kz 0)),Om 105 104,Oo 106 105 7,Od 107 105 (.iadr 4 (Tm 106) (Kz 0)),Od 108 105 (.fadr 3 (Tm 107)),Od 109 105 (.load 1 false (Tm 108)),Oo 110 105 6,Od 111 105 (.iadr 4 (Tm 110) (Kz 0)),Od 112 105 (.fadr 3 (Tm 111)),Od 113 105 (.load 1 false (Tm 112)),Od 114 105 (.bin .lss (Tm 109) (Tm 113)),Ou 115 105 114,Om 101 115]) (.cond (Tm 101) (.regionW [(Om 116 7,.f),(Oa 117 (.iadr 4 (Tm 116) (Kz 0)),.f),(Oz 118 0 117,.f),(Oq 119 3 true 118,.f),(Oa 120 (.call 75 [Tm 119]),.s),(Om 121 7,.f),(Oa 122 (.iadr 4 (Tm 121) (Kz 0)),.s),(Oz 123 3 122,.s),(Oq 124 1 false 123,.s),(Oa 125 (.build (.agg [.p (.bool false),.tight [],.tight [],.p (.int .i64 0)])
 [(0,3,(Tm 120)),(3,1,(Tm 124))]),.f),(Om 126 7,.f),(Oa 127 (.slSl 4 (Tm 126) (some (Kz 1)) none none),.s),(Oy 4 8 125,.s),(Om 7 127,.f)]) (.seq (.region [Om 43 6,Oa 44 (.iadr 4 (Tm 43) (Kz 0)),Oz 45 3 44,Oq 46 1 false 45,Oz 47 3 8,Oy 1 47 46]) (.seq (.seq (.regionW [(Om 49 6,.f),(Oa 50 (.iadr 4 (Tm 49) (Kz 0)),.f),(Oz 51 0 50,.f),(Oq 52 3 true 51,.f),(Om 53 7,.f),(Oa 54 (.iadr 4 (Tm 53) (Kz 0)),.f),(Oz 55 0 54,.f),(Oq 56 3 true 55,.f),(Oa 57 (.call 74 [Tm 52,Tm 56]),.f),(Om 48 57,.f),(Ox 58 48 0,.f),(Ox 59 48 1,.f),(Oz 60 0 8,.f),(Oy 3 60 58,.f),(Om 5 59,.f)]) (.seq (.region [Om 61 5,Oa 62 (.bin .neq (Tm 61) (Kz 0))]) (.cond (Tm 62) (.seq (.region [Oa 63 (.build Zp []),Om 64 5,Oy 4 4 63,Om 5 64]) (.ret)) (.skip)))) (.regionD [Om 65 6,Oa 66 (.slSl 4 (Tm 65) (some (Kz 1)) none none),Om 67 7,Oa 68 (.slSl 4 (Tm 67) (some (Kz 1)) none none),Om 6 66,Om 7 68])))))))) (.seq (.region [Oz 128 0 8,Oq 129 3 true 128,Oa 130 (.call 71 [Tm 129]),Oa 131 (.bin .neq (Tm 130) (Kz 0))]) (.cond (Tm 131) (.region [Oz 132 0 4,Oq 133 1 false 132,Oq 134 4 true 8,Oa 135 (.buildSl 4 93 (.agg [.p (.bool false),.tight [],.tight [],.p (.int .i64 0)]) 1 [(0,(Tm 134))]),Oa 136 (.app 4 64 93 (Tm 133) (Tm 135)),Oz 137 0 4,Oy 1 137 136]) (.skip))))))))
def lf44 : LFunc := ⟨139,[.cell 4 4 true,.slot 5],.seq (.region [Oa 2 (.newv 4 76 (Tm 0)),Oa 3 (.newv 4 76 (Tm 1)),Oa 4 (.newv 4 76 (.cst Zp)),Oa 5 (.mov (Kz 0))]) (.seq (.seq (.region [Oq 9 4 true 2,Oa 10 (.call 68 [Tm 9]),Oa 11 (.un .not (Tm 10)),Om 12 11,Od 13 12 (.load 4 true (Tm 3)),Od 14 12 (.call 68 [Tm 13]),Od 15 12 (.un .not (Tm 14)),Ou 16 12 15]) (.cond (Tm 16) (.seq (.region [Oq 17 4 true 4,Oy 4 4 17,Oa 5 (.mov (Kz 1))]) (.ret)) (.skip))) (.seq (.seq (.region [Oz 19 1 2,Oq 20 3 true 19,Oz 21 1 3,Oq 22 3 true 21,Oa 23 (.call 74 [Tm 20,Tm 22]),Om 18 23,Ox 24 18 0,Ox 25 18 1,Oz 26 1 4,Oy 3 26 24,Om 5 25]) (.seq (.region [Om 27 5,Oa 28 (.bin .neq (Tm 27) (Kz 0))]) (.cond (Tm 28) (.seq (.region [Oa 29 (.build Zp []),Om 30 5,Oy 4 4 29,Om 5 30]) (.ret)) (.skip)))) (.seq (.regionD [Oz 31 0 2,Oq 32 1 false 31,Oz 33 0 3,Oq 34 1 false 33,Om 6 32,Om 7 34]) (.seq (lf44_B0) (.seq (.region [Oq 138 4 true 4,Oy 4 4 138,Oa 5 (.mov (Kz 0))]) (.ret))))))⟩
theorem low44 : zf Tryz.prog gl0 44 = some lf44 := Go.Abs.lowF (by kernel_rfl)
def lf41_B0 : LCode := .block 0 (.loop (.seq (.region [Oa 37 (.bin .lss (Tm 36) (Tm 35))]) (.seq (.cond (Tm 37) (.skip) (.exit 0)) (.seq (.block 1 (.seq (.region [Oa 38 (.iadr 4 (Tm 34) (Tm 36)),Oq 39 4 true 38,Oa 7 (.newv 4 93 (.cst (.agg [.p (.bool false),.tight [],.tight [],.p (.int .i64 0)]))),Oy 4 7 39]) (.seq (.seq (.region [Oz 41 0 7,Oq 42 3 true 41,Oq 43 3 true 3,Oa 44 (.call 70 [Tm 42,Tm 43]),Om 40 44,Ox 45 40 0,Ox 46 40 1,Oz 47 0 7,Oy 3 47 45,Om 5 46]) (.seq (.region [Om 48 5,Oa 49 (.bin .neq (Tm 48) (Kz 0))]) (.cond (Tm 49) (.seq (.region [Oa 50 (.build Zp []),Om 51 5,Oy 4 4 50,Om 5 51]) (.ret)) (.skip)))) (.region [Oz 52 0 4,Oq 53 1 false 52,Oq 54 4 true 7,Oa 55 (.buildSl 4 93 (.agg [.p (.bool false),.tight [],.tight [],.p (.int .i64 0)]) 1 [(0,(Tm 54))]),Oa 56 (.app 4 64 93 (Tm 53) (Tm 55)),Oz 57 0 4,Oy 1 57 56])))) (.region [Oa 58 (.bin .add (Tm 36) (Kz 1)),Om 36 58])))))
def lf41 : LFunc := ⟨60,[.cell 4 4 true,.slot 5],.seq (.region [Oa 2 (.newv 4 76 (Tm 0)),Oa 3 (.newv 3 33 (Tm 1)),Oa 4 (.newv 4 76 (.cst Zp)),Oa 5 (.mov (Kz 0))]) (.seq (.seq (.region [Oq 8 4 true 2,Oa 9 (.call 68 [Tm 8]),Oa 10 (.un .not (Tm 9)),Om 11 10,Od 12 11 (.load 3 true (Tm 3)),Od 13 11 (.call 69 [Tm 12]),Od 14 11 (.un .not (Tm 13)),Ou 15 11 14]) (.cond (Tm 15) (.seq (.region [Oq 16 4 true 4,Oy 4 4 16,Oa 5 (.mov (Kz 1))]) (.ret)) (.skip))) (.seq (.seq (.region [Oz 18 1 2,Oq 19 3 true 18,Oq 20 3 true 3,Oa 21 (.call 70 [Tm 19,Tm 20]),Om 17 21,Ox 22 17 0,Ox 23 17 1,Oz 24 1 4,Oy 3 24 22,Om 5 23]) (.seq (.region [Om 25 5,Oa 26 (.bin .neq (Tm 25) (Kz 0))]) (.cond (Tm 26) (.seq (.region [Oa 27 (.build Zp []),Om 28 5,Oy 4 4 27,Om 5 28]) (.ret)) (.skip)))) (.seq (.seq (.region [Oq 29 3 true 3,Oa 30 (.call 71 [Tm 29]),Oa 31 (.bin .eql (Tm 30) (Kz 0))]) (.cond (Tm 31) (.seq (.region [Oq 32 4 true 4,Oy 4 4 32,Oa 5 (.mov (Kz 0))]) (.ret)) (.skip))) (.seq (.seq (.region [Oz 33 0 2,Oq 34 1 false 33,Oa 35 (.len (Tm 34)),Oa 36 (.mov (Kz 0))]) (lf41_B0)) (.seq (.region [Oq 59 4 true 4,Oy 4 4 59,Oa 5 (.mov (Kz 0))]) (.ret))))))⟩
theorem low41 : zf Tryz.prog gl0 41 = some lf41 := Go.Abs.lowF (by kernel_rfl)
def lf68_B0 : LCode := .block 0 (.loop (.seq (.region [Oa 9 (.bin .lss (Tm 8) (Tm 7))]) (.seq (.cond (Tm 9) (.skip) (.exit 0)) (.seq (.block 1 (.seq (.region [Om 10 8,Oa 11 (.iadr 4 (Tm 6) (Tm 8)),Oq 12 4 true 11,Oa 4 (.newv 4 93 (.cst (.agg [.p (.bool false),.tight [],.tight [],.p (.int .i64 0)]))),Om 3 10,Oy 4 4 12]) (.seq (.regionD [Oz 13 3 4,Oq 14 1 false 13,Oa 15 (.bin .lss (Tm 14) (Kz 0)),Om 16 15,Oo 17 16 3,Od 18 16 (.bin .gtr (Tm 17) (Kz 0)),Oo 19 16 18,Oc 20 19 (.fadr 3 (Tm 4)),Oc 21 19 (.load 1 false (Tm 20)),Oc 22 19 (.fadr 0 (Tm 1)),Oc 23 19 (.load 1 false (Tm 22)),Oj 24 19 3,Oc 25 19 (.bin .sub (Tm 24) (Kz 1)),Oc 26 19 (.iadr 4 (Tm 23) (Tm 25)),Oc 27 19 (.fadr 3 (Tm 26)),Oc 28 19 (.load 1 false (Tm 27)),Oc 29 19 (.bin .leq (Tm 21) (Tm 28)),Od 30 16 (.pick (Tm 19) (Tm 29) Kg),Ou 31 16 30,Om 32 31,Od 33 32 (.fadr 0 (Tm 4)),Od 34 32 (.load 3 true (Tm 33)),Od 35 32 (.call 69 [Tm 34]),Od 36 32 (.un .not (Tm 35)),Ou 37 32 36,Om 38 37,Od 39 38 (.fadr 0 (Tm 4)),Od 40 38 (.load 3 true (Tm 39)),Od 41 38 (.call 71 [Tm 40]),Od 42 38 (.bin .eql (Tm 41) (Kz 0)),Ou 43 38 42]) (.cond (Tm 43) (.seq (.region [Oa 2 (.mov Kg)]) (.ret)) (.skip))))) (.region [Oa 44 (.bin .add (Tm 8) (Kz 1)),Om 8 44])))))
def lf68 : LFunc := ⟨48,[.slot 2],.seq (.region [Oa 1 (.newv 4 76 (Tm 0)),Oa 2 (.mov Kg)]) (.seq (.seq (.region [Oz 5 0 1,Oq 6 1 false 5,Oa 7 (.len (Tm 6)),Oa 8 (.mov (Kz 0))]) (lf68_B0)) (.seq (.region [Oz 45 1 1,Oq 46 3 true 45,Oa 47 (.call 69 [Tm 46]),Om 2 47]) (.ret)))⟩
theorem low68 : zf Tryz.prog gl0 68 = some lf68 := Go.Abs.lowF (by kernel_rfl)
def lf77_B0 : LCode := .block 0 (.loop (.seq (.region [Oa 13 (.bin .lss (Tm 12) (Tm 11))]) (.seq (.cond (Tm 13) (.skip) (.exit 0)) (.seq (.block 1 (.seq (.region [Oa 14 (.iadr 4 (Tm 10) (Tm 12)),Oq 15 4 true 14,Oa 4 (.newv 4 93 (.cst (.agg [.p (.bool false),.tight [],.tight [],.p (.int .i64 0)]))),Oy 4 4 15]) (.regionW [(Oz 16 0 2,.s),(Oq 17 1 false 16,.s),(Oz 18 0 4,.f),(Oq 19 3 true 18,.f),(Oa 20 (.call 75 [Tm 19]),.s),(Oz 21 3 4,.s),(Oq 22 1 false 21,.s),(Oa 23 (.build (.agg [.p (.bool false),.tight [],.tight [],.p (.int .i64 0)]) [(0,3,(Tm 20)),(3,1,(Tm 22))]),.f),(Oa 24 (.buildSl 4 93 (.agg [.p (.bool false),.tight [],.tight [],.p (.int .i64 0)]) 1 [(0,(Tm 23))]),.s),(Oa 25 (.app 4 64 93 (Tm 17) (Tm 24)),.f),(Oz 26 0 2,.f),(Oy 1 26 25,.f)]))) (.region [Oa 27 (.bin .add (Tm 12) (Kz 1)),Om 12 27])))))
def lf77 : LFunc := ⟨29,[.cell 2 4 true],.seq (.region [Oa 1 (.newv 4 76 (Tm 0)),Oa 2 (.newv 4 76 (.cst Zp))]) (.seq (.region [Oz 5 1 1,Oq 6 3 true 5,Oa 7 (.call 75 [Tm 6]),Oz 8 1 2,Oy 3 8 7]) (.seq (.seq (.region [Oz 9 0 1,Oq 10 1 false 9,Oa 11 (.len (Tm 10)),Oa 12 (.mov (Kz 0))]) (lf77_B0)) (.seq (.region [Oq 28 4 true 2,Oy 4 2 28]) (.ret))))⟩
theorem low77 : zf Tryz.prog gl0 77 = some lf77 := Go.Abs.lowF (by kernel_rfl)
def lf75 : LFunc := ⟨12,[.cell 2 3 true],.seq (.region [Oa 1 (.newv 3 33 (Tm 0)),Oa 2 (.newv 3 33 (.cst Zr))]) (.seq (.regionW [(Oz 3 0 1,.s),(Oq 4 1 false 3,.s),(Oz 5 1 1,.f),(Oq 6 1 false 5,.f),(Oa 7 (.call 117 [Tm 6]),.s),(Oz 8 2 1,.s),(Oq 9 1 false 8,.s),(Oa 10 (.call 117 [Tm 9]),.s),(Oa 11 (.build Zr [(0,1,(Tm 4)),(1,1,(Tm 7)),(2,1,(Tm 10))]),.f),(Oy 3 2 11,.f)]) (.ret))⟩
theorem low75 : zf Tryz.prog gl0 75 = some lf75 := Go.Abs.lowF (by kernel_rfl)
def lf81 : LFunc := ⟨24,[.slot 4],.seq (.region [Oa 2 (.newv 3 33 (Tm 0)),Oa 3 (.newv 3 33 (Tm 1)),Oa 4 (.mov Kg)]) (.seq (.region [Oz 5 0 2,Oq 6 1 false 5,Oz 7 0 3,Oq 8 1 false 7,Oa 9 (.eqB false (Tm 6) (Tm 8)),Om 10 9,Oc 11 10 (.fadr 1 (Tm 2)),Oc 12 10 (.load 1 false (Tm 11)),Oc 13 10 (.fadr 1 (Tm 3)),Oc 14 10 (.load 1 false (Tm 13)),Oc 15 10 (.call 119 [Tm 12,Tm 14]),Ot 16 10 15,Om 17 16,Oc 18 17 (.fadr 2 (Tm 2)),Oc 19 17 (.load 1 false (Tm 18)),Oc 20 17 (.fadr 2 (Tm 3)),Oc 21 17 (.load 1 false (Tm 20)),Oc 22 17 (.call 119 [Tm 19,Tm 21]),Ot 23 17 22,Om 4 23]) (.ret))⟩
theorem low81 : zf Tryz.prog gl0 81 = some lf81 := Go.Abs.lowF (by kernel_rfl)
def lf119_B0 : LCode := .block 0 (.loop (.seq (.region [Oa 14 (.bin .lss (Tm 13) (Tm 12))]) (.seq (.cond (Tm 14) (.skip) (.exit 0)) (.seq (.block 1 (.seq (.region [Om 15 13,Om 5 15]) (.seq (.regionD [Om 16 0,Om 17 5,Oa 18 (.iadr 1 (Tm 16) (Tm 17)),Oq 19 1 false 18,Om 20 1,Om 21 5,Oa 22 (.iadr 1 (Tm 20) (Tm 21)),Oq 23 1 false 22,Oa 24 (.bin .neq (Tm 19) (Tm 23))]) (.cond (Tm 24) (.seq (.region [Oa 4 (.mov Kg)]) (.ret)) (.skip))))) (.region [Oa 25 (.bin .add (Tm 13) (Kz 1)),Om 13 25])))))
def lf119 : LFunc := ⟨26,[.slot 4],.seq (.region [Oa 4 (.mov Kg)]) (.seq (.seq (.region [Om 6 0,Oa 7 (.len (Tm 6)),Om 8 1,Oa 9 (.len (Tm 8)),Oa 10 (.bin .neq (Tm 7) (Tm 9))]) (.cond (Tm 10) (.seq (.region [Oa 4 (.mov Kg)]) (.ret)) (.skip))) (.seq (.seq (.region [Om 11 0,Oa 12 (.len (Tm 11)),Oa 13 (.mov (Kz 0))]) (lf119_B0)) (.seq (.region [Oa 4 (.mov Kt)]) (.ret))))⟩
theorem low119 : zf Tryz.prog gl0 119 = some lf119 := Go.Abs.lowF (by kernel_rfl)
def lf86_B0 : LCode := .block 0 (.loop (.seq (.seq (.region [Om 6 5,Om 7 0,Oa 8 (.len (Tm 7)),Oa 9 (.bin .lss (Tm 6) (Tm 8))]) (.cond (Tm 9) (.skip) (.exit 0))) (.seq (.block 1 (.seq (.region [Om 12 0,Om 13 5,Oa 14 (.iadr 4 (Tm 12) (Tm 13)),Oz 15 0 14,Oq 16 1 false 15,Om 17 1,Oa 18 (.bin .eql (Tm 16) (Tm 17))]) (.cond (Tm 18) (.seq (.region [Om 19 0,Om 20 5,Oa 21 (.iadr 4 (Tm 19) (Tm 20)),Oz 22 1 21,Oq 23 3 true 22,Oy 3 4 23]) (.ret)) (.skip)))) (.region [Om 10 5,Oa 11 (.bin .add (Tm 10) (Kz 1)),Om 5 11]))))
def lf86 : LFunc := ⟨25,[.cell 4 3 true],.seq (.region [Oa 4 (.newv 3 33 (.cst Zr))]) (.seq (.seq (.region [Oa 5 (.mov (Kz 0))]) (lf86_B0)) (.seq (.region [Oa 24 (.call 122 []),Oy 3 4 24]) (.ret)))⟩
theorem low86 : zf Tryz.prog gl0 86 = some lf86 := Go.Abs.lowF (by kernel_rfl)
def lf51_B0 : LCode := .block 0 (.loop (.seq (.seq (.region [Om 15 6,Oz 16 0 2,Oq 17 1 false 16,Oa 18 (.len (Tm 17)),Oa 19 (.bin .lss (Tm 15) (Tm 18))]) (.cond (Tm 19) (.skip) (.exit 0))) (.seq (.block 1 (.seq (.region [Om 22 1,Oz 23 0 2,Oq 24 1 false 23,Om 25 6,Oa 26 (.iadr 4 (Tm 24) (Tm 25)),Oz 27 3 26,Oq 28 1 false 27,Oa 29 (.call 86 [Tm 22,Tm 28]),Oa 30 (.call 85 [Tm 29]),Oa 31 (.un .not (Tm 30))]) (.cond (Tm 31) (.seq (.region [Oa 32 (.build Zr []),Oy 3 4 32,Oa 5 (.mov (Kz 1))]) (.ret)) (.skip)))) (.region [Om 20 6,Oa 21 (.bin .add (Tm 20) (Kz 1)),Om 6 21]))))
def lf51_B1 : LCode := .block 2 (.loop (.seq (.seq (.region [Om 35 8,Oz 36 0 2,Oq 37 1 false 36,Oa 38 (.len (Tm 37)),Oa 39 (.bin .lss (Tm 35) (Tm 38))]) (.cond (Tm 39) (.skip) (.exit 2))) (.seq (.block 3 (.seq (.regionW [(Oz 43 0 2,.s),(Oq 44 1 false 43,.s),(Om 45 8,.f),(Oa 46 (.iadr 4 (Tm 44) (Tm 45)),.s),(Oz 47 0 46,.s),(Oq 48 3 true 47,.s),(Om 49 1,.f),(Oz 50 0 2,.s),(Oq 51 1 false 50,.s),(Om 52 8,.f),(Oa 53 (.iadr 4 (Tm 51) (Tm 52)),.s),(Oz 54 3 53,.s),(Oq 55 1 false 54,.s),(Oa 56 (.call 86 [Tm 49,Tm 55]),.t),(Oa 57 (.call 87 [Tm 48,Tm 56]),.t),(Om 42 57,.f),(Ox 58 42 0,.f),(Ox 59 42 1,.f),(Oa 9 (.newv 3 33 (.cst Zr)),.s),(Oy 3 9 58,.f),(Om 10 59,.f)]) (.seq (.seq (.region [Om 60 10,Oa 61 (.bin .eql (Tm 60) (Kz 0))]) (.cond (Tm 61) (.region [Oq 63 3 true 7,Oq 64 3 true 9,Oa 65 (.call 88 [Tm 63,Tm 64]),Om 62 65,Ox 66 62 0,Ox 67 62 1,Oy 3 7 66,Om 10 67]) (.skip))) (.seq (.region [Om 68 10,Oa 69 (.bin .neq (Tm 68) (Kz 0))]) (.cond (Tm 69) (.seq (.region [Oa 70 (.build Zr []),Om 71 10,Oy 3 4 70,Om 5 71]) (.ret)) (.skip)))))) (.region [Om 40 8,Oa 41 (.bin .add (Tm 40) (Kz 1)),Om 8 41]))))
def lf51 : LFunc := ⟨73,[.cell 4 3 true,.slot 5],.seq (.region [Oa 2 (.newv 4 76 (Tm 0)),Oa 4 (.newv 3 33 (.cst Zr)),Oa 5 (.mov (Kz 0))]) (.seq (.seq (.region [Oq 11 4 true 2,Oa 12 (.call 83 [Tm 11]),Oa 13 (.un .not (Tm 12))]) (.cond (Tm 13) (.seq (.region [Oa 14 (.build Zr []),Oy 3 4 14,Oa 5 (.mov (Kz 1))]) (.ret)) (.skip))) (.seq (.seq (.region [Oa 6 (.mov (Kz 0))]) (lf51_B0)) (.seq (.region [Oz 33 1 2,Oq 34 3 true 33,Oa 7 (.newv 3 33 (.cst Zr)),Oy 3 7 34]) (.seq (.seq (.region [Oa 8 (.mov (Kz 0))]) (lf51_B1)) (.seq (.region [Oq 72 3 true 7,Oy 3 4 72,Oa 5 (.mov (Kz 0))]) (.ret))))))⟩
theorem low51 : zf Tryz.prog gl0 51 = some lf51 := Go.Abs.lowF (by kernel_rfl)
def lf83_B0 : LCode := .block 0 (.loop (.seq (.seq (.region [Om 6 4,Oz 7 0 1,Oq 8 1 false 7,Oa 9 (.len (Tm 8)),Oa 10 (.bin .lss (Tm 6) (Tm 9))]) (.cond (Tm 10) (.skip) (.exit 0))) (.seq (.block 1 (.seq (.region [Oz 13 0 1,Oq 14 1 false 13,Om 15 4,Oa 16 (.iadr 4 (Tm 14) (Tm 15)),Oq 17 4 true 16,Oa 5 (.newv 4 93 (.cst (.agg [.p (.bool false),.tight [],.tight [],.p (.int .i64 0)]))),Oy 4 5 17]) (.seq (.seq (.region [Oz 18 3 5,Oq 19 1 false 18,Om 20 3,Oa 21 (.bin .leq (Tm 19) (Tm 20)),Om 22 21,Od 23 22 (.fadr 0 (Tm 5)),Od 24 22 (.load 3 true (Tm 23)),Od 25 22 (.call 85 [Tm 24]),Od 26 22 (.un .not (Tm 25)),Ou 27 22 26,Om 28 27,Od 29 28 (.fadr 0 (Tm 5)),Od 30 28 (.fadr 1 (Tm 29)),Od 31 28 (.load 1 false (Tm 30)),Od 32 28 (.len (Tm 31)),Od 33 28 (.bin .eql (Tm 32) (Kz 0)),Ou 34 28 33]) (.cond (Tm 34) (.seq (.region [Oa 2 (.mov Kg)]) (.ret)) (.skip))) (.region [Oz 35 3 5,Oq 36 1 false 35,Om 3 36])))) (.region [Om 11 4,Oa 12 (.bin .add (Tm 11) (Kz 1)),Om 4 12]))))
def lf83 : LFunc := ⟨40,[.slot 2],.seq (.region [Oa 1 (.newv 4 76 (Tm 0)),Oa 2 (.mov Kg)]) (.seq (.region [Oa 3 (.mov (Kz (-1)))]) (.seq (.seq (.region [Oa 4 (.mov (Kz 0))]) (lf83_B0)) (.seq (.region [Oz 37 1 1,Oq 38 3 true 37,Oa 39 (.call 85 [Tm 38]),Om 2 39]) (.ret))))⟩
theorem low83 : zf Tryz.prog gl0 83 = some lf83 := Go.Abs.lowF (by kernel_rfl)
def lf122 : LFunc := ⟨2,[.cell 0 3 true],.seq (.region [Oa 0 (.newv 3 33 (.cst Zr))]) (.seq (.region [Oa 1 (.call 19 [.cst (.p (.int .i64 0)),.cst (.p (.int .i64 1))]),Oy 3 0 1]) (.ret))⟩
theorem low122 : zf Tryz.prog gl0 122 = some lf122 := Go.Abs.lowF (by kernel_rfl)
end Go.Proofs.YtgbjjikaenlkmaaGreat
