/-
  What strings.Cut and strings.Trim compute at one byte, and rat.Parse, for texts of at most 80000 bytes.
-/
import Derived.Test.YtgdpephlpdonnaaGreatDoorRatD
import Derived.Test.YtgdpephlpdonnaaGreatDoorWholeD
import Derived.Test.YtgdpephlpdonnaaGreatDoorRatA
import Derived.Lib.Bytealg
import Derived.Laws.Externs
set_option linter.unusedSimpArgs false
set_option linter.unusedVariables false
set_option linter.constructorNameAsVariable false

/-
  strings.Cut at a slash; strings.Trim of noughts; rat.Parse.
-/
namespace Go.Proofs.YtgdpephlpdonnaaGreatDoor
open Go Go.Abs Go.Limbs
variable {base : Prot}
set_option maxRecDepth 20000
attribute [local irreducible] vc
attribute [local simp] pureS touchV freezeL fuel shiftV u64 au
/-! ### The plain law -/
/-- Ahead of the first such byte, behind it, and whether there is one. -/
def cutU (c : UInt8) (s : List UInt8) : List UInt8 := s.takeWhile (· != c)
def cutD (c : UInt8) (s : List UInt8) : List UInt8 := (s.dropWhile (· != c)).tail
def cutB (c : UInt8) (s : List UInt8) : Bool := !(s.dropWhile (· != c)).isEmpty
end Go.Proofs.YtgdpephlpdonnaaGreatDoor

/-
  rat: Parse of Text: the plain law.
-/
namespace Go.Proofs.YtgdpephlpdonnaaGreatDoor
open Go Go.Abs Go.Limbs Go.Lib
set_option maxRecDepth 20000
theorem digit_valQ {d : Nat} (h : d < 10) : (digit d).toNat = 48 + d := by
  unfold digit
  rw [UInt8.toNat_ofNat']
  omega
theorem digit_isQ {d : Nat} (h : d < 10) : isD (digit d) = true := by
  have := digit_valQ h
  unfold isD
  simp
  omega
theorem numD_appQ : ∀ (l r : List UInt8) (acc : Nat), numD acc (l ++ r) = numD (numD acc l) r
  | [], _, _ => rfl
  | c :: l, r, acc => numD_appQ l r _
theorem dec_ne (n : Nat) : decDigits n ≠ [] := by
  by_cases h : n < 10
  · rw [decDigits_one h]; simp
  · rw [dec_ten h]; simp
end Go.Proofs.YtgdpephlpdonnaaGreatDoor

/-
  strings.Cut at a byte, strings.Trim and TrimRight of noughts.
-/
namespace Go.Proofs.YtgdpephlpdonnaaGreatDoor
open Go Go.Abs Go.Limbs
variable {base : Prot}
set_option maxRecDepth 20000
attribute [local irreducible] vc
attribute [local simp] pureS touchV freezeL fuel shiftV u64 au
/-! ### The first such byte -/
theorem idx_spec (c : UInt8) : ∀ s : List UInt8, (cutB c s = false ∧ Lib.indexByte s c = -1 ∧ cutU c s = s ∧ cutD c s = []) ∨
    (cutB c s = true ∧ Lib.indexByte s c = ((cutU c s).length : Int) ∧ (cutU c s).length < s.length ∧ s.take (cutU c s).length = cutU c s ∧ s.drop ((cutU c s).length + 1) = cutD c s)
  | [] => .inl ⟨rfl, rfl, rfl, rfl⟩
  | b :: r => by
    by_cases hb : b = c
    · subst hb
      right
      have e1 : cutU b (b :: r) = [] := by simp [cutU]
      have e2 : cutD b (b :: r) = r := by simp [cutD]
      rw [e1, e2]
      exact ⟨by simp [cutB], by simp [Lib.indexByte], by simp, rfl, by simp⟩
    · have hn : (b != c) = true := bne_iff_ne.2 hb
      have hq : (b == c) = false := beq_false_of_ne hb
      have e1 : cutU c (b :: r) = b :: cutU c r := by simp [cutU, List.takeWhile_cons, hn]
      have e2 : cutD c (b :: r) = cutD c r := by simp [cutD, List.dropWhile_cons, hn]
      have e3 : cutB c (b :: r) = cutB c r := by simp [cutB, List.dropWhile_cons, hn]
      rw [e1, e2, e3]
      rcases idx_spec c r with ⟨h1, h2, h3, h4⟩ | ⟨h1, h2, h3, h4, h5⟩
      · left; exact ⟨h1, by simp [Lib.indexByte, hq, h2], by rw [h3], h4⟩
      · right
        have hne : (Lib.indexByte r c == -1) = false := by rw [h2]; exact beq_false_of_ne (by omega)
        refine ⟨h1, ?_, by simp; omega, by simp [h4], by simp [h5]⟩
        rw [h2] at hne
        simp [Lib.indexByte, hq, hne, h2]
def sIdx : List PVal → Option PVal
  | [.str s, .int .u8 c] => some (.int .i64 (Lib.indexByte s c.toNat.toUInt8))
  | _ => none
theorem idx_ext {P : Program} {f : FuncId} {fn : Func} (hf : P.funcs[f]? = some fn) (h1 : (fn.name == "runtime.NumGoroutine") = false) (h2 : fn.body.isNone = true) (h3 : (Extern.findNext fn).isNone = true)
    (h4 : Extern.find fn = some Extern.BytealgIndexByte.indexByte) : ∀ ps x, sIdx ps = some x → ExtOk P f ps x := by
  intro ps x h
  unfold sIdx at h
  split at h
  case h_2 => cases h
  rename_i s c
  cases h
  refine ⟨fn, _, hf, h1, h2, h3, h4, fun pr w vs hl hr => ?_⟩
  match vs, hl with
  | [a, b], _ =>
    have ha := hr 0 _ a rfl rfl
    have hb := hr 1 _ b rfl rfl
    cases ha
    cases hb
    exact ⟨_, Lib.run_indexByteString _ _ w, .int _ _⟩
theorem idx_at : ∀ ps x, sIdx ps = some x → ExtOk Tryz.prog 136 ps x := by
  obtain ⟨fn, hfn⟩ : ∃ fn, Tryz.prog.funcs[136]? = some fn := ⟨_, rfl⟩
  refine idx_ext hfn ?_ ?_ ?_ ?_ <;> (cases hfn; kernel_rfl)
theorem sIdx_at (s : List UInt8) (c : UInt8) : sIdx [.str s, .int .u8 (c.toNat : Int)] = some (.int .i64 (Lib.indexByte s c)) := by
  have : ((c.toNat : Int).toNat).toUInt8 = c := by simp
  simp only [sIdx, this]
def Tib : Tab := Tab.none.ext 136 sIdx
theorem Tib_ok : TabOk Tryz.prog base Tib := Tab.ext_ok Tab.none_ok idx_at
theorem Tib_mu (f : FuncId) (a : List AVal) (H : Heap) : Tib.mu f a H = none := (rfl)
theorem Tib_ex : Tib.ex 136 = sIdx := (rfl)
theorem indexByte_ok : FnOk Tryz.prog base 115 (pureS sIdx) := by
  refine pure_of_vc hmix Tib_ok globNone low115 fun args z hs hf => ?_
  have hs' := hs
  unfold sIdx at hs
  split at hs
  case h_2 => cases hs
  rename_i s c
  refine ⟨by simp [lf115], ?_⟩
  simp [lf115, hs', Tib_mu, Tib_ex]
def sIndex1 : List PVal → Option PVal
  | [.str s, .str [c]] => some (.int .i64 (Lib.indexByte s c))
  | _ => none
def Tix : Tab := Tab.none.with 115 (pureS sIdx)
theorem Tix_ok : TabOk Tryz.prog base Tix := Tab.with_ok Tab.none_ok indexByte_ok
theorem Tix_mu (f : FuncId) (a : List AVal) (H : Heap) : Tix.mu f a H = none := (rfl)
theorem Tix_fn : Tix.fn 115 = pureS sIdx := (rfl)
theorem index_ok : FnOk Tryz.prog base 95 (pureS sIndex1) := by
  refine pure_of_vc hmix Tix_ok globNone low95 fun args z hs hf => ?_
  unfold sIndex1 at hs
  split at hs
  case h_2 => cases hs
  rename_i s c
  cases hs
  refine ⟨by simp [lf95], ?_⟩
  have h1 := sIdx_at s c
  by_cases hq : [c] = s
  · subst hq
    have hv : Lib.indexByte [c] c = 0 := by simp [Lib.indexByte]
    simp [lf95, binS, hv, Tix_mu, Tix_fn]
  · obtain ⟨k, hk⟩ : ∃ k, k = Lib.indexByte s c := ⟨_, rfl⟩
    rw [← hk] at h1 ⊢
    have hqb : ([c] == s) = false := beq_false_of_ne hq
    simp [lf95, binS, hq, hqb, h1, Tix_mu, Tix_fn]
def sCutS : List PVal → Option PVal
  | [.str s, .str [c]] => some (.tup [.str (cutU c s), .str (cutD c s), .bool (cutB c s)])
  | _ => none
def Tc2 : Tab := Tab.none.with 95 (pureS sIndex1)
theorem Tc2_ok : TabOk Tryz.prog base Tc2 := Tab.with_ok Tab.none_ok index_ok
theorem Tc2_mu (f : FuncId) (a : List AVal) (H : Heap) : Tc2.mu f a H = none := (rfl)
theorem Tc2_fn : Tc2.fn 95 = pureS sIndex1 := (rfl)
theorem lcut_ok : FnOk Tryz.prog base 56 (pureS sCutS) := by
  refine pure_of_vc hmix Tc2_ok globNone low56 fun args z hs hf => ?_
  unfold sCutS at hs
  split at hs
  case h_2 => cases hs
  rename_i s c
  cases hs
  refine ⟨by simp [lf56], ?_⟩
  have hlen := (hf (.str s) (by simp)).str
  unfold maxLen at hlen
  have h1 : sIndex1 [.str s, .str [c]] = some (.int .i64 (Lib.indexByte s c)) := rfl
  rcases idx_spec c s with ⟨e1, e2, e3, e4⟩ | ⟨e1, e2, e3, e4, e5⟩
  · rw [e2] at h1
    rw [e1, e3, e4]
    simp [lf56, h1, Tc2_mu, Tc2_fn]
  · rw [e2] at h1
    rw [e1]
    obtain ⟨k, hk⟩ : ∃ k, k = (cutU c s).length := ⟨_, rfl⟩
    rw [← hk] at h1 e3 e4 e5
    have hw := wrap_succ (i := k) (by omega)
    have l1 : (k : Int) ≤ s.length := by omega
    have l2 : ((k + 1 : Nat) : Int) ≤ s.length := by omega
    have l3 : (k : Int) + 1 ≤ s.length := by omega
    have l4 : (0 : Int) ≤ (k : Int) + 1 := by omega
    simp [lf56, h1, hw, l1, l2, l3, l4, e4, e5, Tc2_mu, Tc2_fn]
def Tc3 : Tab := Tab.none.with 56 (pureS sCutS)
theorem Tc3_ok : TabOk Tryz.prog base Tc3 := Tab.with_ok Tab.none_ok lcut_ok
theorem Tc3_mu (f : FuncId) (a : List AVal) (H : Heap) : Tc3.mu f a H = none := (rfl)
theorem Tc3_fn : Tc3.fn 56 = pureS sCutS := (rfl)
theorem scut_ok : FnOk Tryz.prog base 22 (pureS sCutS) := by
  refine pure_of_vc hmix Tc3_ok globNone low22 fun args z hs hf => ?_
  unfold sCutS at hs
  split at hs
  case h_2 => cases hs
  rename_i s c
  cases hs
  refine ⟨by simp [lf22], ?_⟩
  have h1 : sCutS [.str s, .str [c]] = some (.tup [.str (cutU c s), .str (cutD c s), .bool (cutB c s)]) := rfl
  simp [lf22, h1, Tc3_mu, Tc3_fn]
/-! ### Noughts at the end, at both ends -/
def trimR0 (s : List UInt8) : List UInt8 := (s.reverse.dropWhile (· == 48)).reverse
theorem trimR0_snoc (s : List UInt8) (c : UInt8) : trimR0 (s ++ [c]) = if c = 48 then trimR0 s else s ++ [c] := by
  unfold trimR0
  rw [List.reverse_append, List.reverse_singleton, List.singleton_append, List.dropWhile_cons]
  by_cases h : c = 48
  · simp [h]
  · simp [h]
def sTRB : List PVal → Option PVal
  | [.str s, .int .u8 b] => if b = 48 then some (.str (trimR0 s)) else none
  | _ => none
theorem trb_ok : FnOk Tryz.prog base 58 (pureS sTRB) := by
  refine pure_of_vc hmix Tab.none_ok globNone low58 fun args z hs hf => ?_
  unfold sTRB at hs
  split at hs
  case h_2 => cases hs
  rename_i s b
  split at hs
  case isFalse => cases hs
  rename_i hb
  subst hb
  cases hs
  have hlen := (hf (.str s) (by simp)).str
  unfold maxLen at hlen
  refine ⟨by simp [lf58], ?_⟩
  simp [lf58]
  simp only [lf58_B0, vc_block]
  refine loop_ind (fun fr H2 => ∃ z : List UInt8, H2 = [] ∧ z.length ≤ s.length ∧ trimR0 z = trimR0 s ∧ fr 0 = .p (.str z) ∧ fr 1 = .p (.int .u8 48)) (fun fr _ => match fr 0 with | .p (.str z) => z.length | _ => 0) ⟨s, rfl, Nat.le_refl _, rfl, by simp, by simp⟩ ?_
  rintro fr H2 ⟨z, rfl, hz, hd, h0, h1⟩
  rcases List.eq_nil_or_concat z with rfl | ⟨z, c, rfl⟩
  · have : trimR0 [] = [] := rfl
    rw [this] at hd
    simp [h0, retQ, ← hd]
  · rw [List.concat_eq_append] at *
    simp only [List.length_append, List.length_cons, List.length_nil] at hz
    have hl : (0 : Int) < (z.length : Int) + 1 := by omega
    have hw : IntKind.i64.wrap (z.length : Int) = (z.length : Int) := IntWalk.i64_in _ (by omega)
    have hl1 : (z.length : Int) ≤ (z.length : Int) + 1 := by omega
    rw [trimR0_snoc] at hd
    by_cases hcd : c = 48
    · subst hcd
      rw [if_pos rfl] at hd
      have h48 : (UInt8.toNat 48 : Int) = 48 := rfl
      simp [h0, h1, hl, hl1, hw, h48]
      exact ⟨by omega, hd⟩
    · have hci : ((c.toNat : Int) == 48) = false := beq_false_of_ne (fun e => hcd (UInt8.toNat_inj.1 (by rw [show UInt8.toNat 48 = 48 from rfl]; omega)))
      rw [if_neg hcd] at hd
      have hd' : trimR0 s = z ++ [c] := hd.symm
      simp [h0, h1, hl, hw, hci, retQ, hd']
def Ttr2 : Tab := (Tab.none.with 58 (pureS sTRB)).with 96 (pureS sTLB)
theorem Ttr2_ok : TabOk Tryz.prog base Ttr2 := Tab.with_ok (Tab.with_ok Tab.none_ok trb_ok) tlb_ok
theorem Ttr2_mu (f : FuncId) (a : List AVal) (H : Heap) : Ttr2.mu f a H = none := (rfl)
theorem Ttr2_fns : Ttr2.fn 58 = pureS sTRB ∧ Ttr2.fn 96 = pureS sTLB := ⟨rfl, rfl⟩
def sTR : List PVal → Option PVal
  | [.str s, .str c] => if c = [48] then some (.str (trimR0 s)) else none
  | _ => none
theorem sTR_at (s : List UInt8) : sTR [.str s, .str [48]] = some (.str (trimR0 s)) := by simp only [sTR, if_true]
theorem trimR_ok : FnOk Tryz.prog base 25 (pureS sTR) := by
  refine pure_of_vc hmix Ttr2_ok globNone low25 fun args z hs hf => ?_
  unfold sTR at hs
  split at hs
  case h_2 => cases hs
  rename_i s c
  split at hs
  case isFalse => cases hs
  rename_i hc
  subst hc
  cases hs
  refine ⟨by simp [lf25], ?_⟩
  have h1 : sTRB [.str s, .int .u8 48] = some (.str (trimR0 s)) := by simp only [sTRB, if_true]
  by_cases hz : s = []
  · subst hz
    have : trimR0 [] = [] := rfl
    simp [lf25, binS, this]
  · have he : s.isEmpty = false := by simpa using hz
    simp [lf25, binS, hz, he, h1, Ttr2_mu, Ttr2_fns]
end Go.Proofs.YtgdpephlpdonnaaGreatDoor

/-
  rat.Parse.
-/
namespace Go.Proofs.YtgdpephlpdonnaaGreatDoor
open Go Go.Abs Go.Limbs
variable {base : Prot}
set_option maxRecDepth 20000
attribute [local irreducible] vc
attribute [local simp] pureS touchV freezeL fuel shiftV u64 au
theorem digS_all {s : List UInt8} (h : digS s = true) : s.all isD = true := by
  unfold digS at h
  simp only [Bool.and_eq_true] at h
  exact h.2
theorem cutU_len (c : UInt8) (s : List UInt8) : (cutU c s).length ≤ s.length := (List.takeWhile_sublist _).length_le
theorem cutD_len (c : UInt8) (s : List UInt8) : (cutD c s).length ≤ s.length := by
  unfold cutD
  have := (List.dropWhile_sublist (p := (· != c)) (l := s)).length_le
  simp
  omega
end Go.Proofs.YtgdpephlpdonnaaGreatDoor
