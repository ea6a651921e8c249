/-
  What nat.Parse computes, for texts of at most 90000 bytes. No conditions beyond the lemmas' own hypotheses.
-/
import Derived.Test.YtgdpephlpdonnaaGreatDoorNatH
import Derived.Test.YtgdpephlpdonnaaGreatDoorNatE
import Derived.Test.YtgdpephlpdonnaaGreatDoorNatG
import Derived.Test.YtgdpephlpdonnaaGreatDoorNatB
import Derived.Lib.AtoiErrMem
set_option linter.unusedSimpArgs false
set_option linter.unusedVariables false
set_option linter.constructorNameAsVariable false

/-
  strings.Trim of digits; strings.TrimLeft of noughts; nat.Digits.
-/
namespace Go.Proofs.YtgdpephlpdonnaaGreatDoor
open Go Go.Abs Go.Limbs
variable {base : Prot}
set_option maxRecDepth 20000
def isD (b : UInt8) : Bool := decide (48 ≤ b.toNat ∧ b.toNat < 58)
def digTab : PVal := .agg ((List.range 256).map fun i => .bool (decide (48 ≤ i ∧ i < 58)))
def digE : Ent := ⟨256, 0, false, [.p digTab], 76⟩
def tenD : List UInt8 := [48, 49, 50, 51, 52, 53, 54, 55, 56, 57]
def sMake : List PVal → Option PVal
  | [.str s] => if s = tenD then some (.tup [digTab, .bool true]) else none
  | _ => none
theorem make_run : eqO (runP Tab.none 30 lf59 [.str tenD]) (some (.tup [digTab, .bool true])) = true := by kernel_rfl
theorem make_ok : FnOk Tryz.prog base 59 (pureS sMake) := by
  refine pure_of_run hmix Tab.none_ok globNone low59 30 fun args x hs => ?_
  unfold sMake at hs
  split at hs
  case h_2 => cases hs
  rename_i s
  split at hs
  case isFalse => cases hs
  rename_i h
  subst h
  cases hs
  exact eqO_ok make_run
section
attribute [local irreducible] vc
attribute [local simp] pureS touchV freezeL fuel shiftV
open Classical in
noncomputable def contM : List AVal → Heap → Option (AVal × Heap)
  | [.optr k 0 0 0, .p (.int .u8 c)], H => if H[k]? = some digE ∧ 0 ≤ c ∧ c < 256 then some (.p (.bool (decide (48 ≤ c ∧ c < 58))), H) else none
  | _, _ => none
theorem contM_at {H : Heap} {k : Nat} (h : H[k]? = some digE) (c : UInt8) : contM [.optr k 0 0 0, .p (.int .u8 c.toNat)] H = some (.p (.bool (isD c)), H) := by
  have := c.toNat_lt
  unfold contM
  simp only
  rw [if_pos ⟨h, by omega, by omega⟩]
  have e : decide ((48 : Int) ≤ c.toNat ∧ (c.toNat : Int) < 58) = isD c := by
    unfold isD
    apply decide_eq_decide.2
    omega
  rw [e]
theorem cont_ok : MuOk Tryz.prog base 99 contM := by
  refine own_of_vc hmix Tab.none_ok globNone low99 fun args H r H' hs hf => ?_
  unfold contM at hs
  split at hs
  case h_2 => cases hs
  rename_i k c
  split at hs
  case isFalse => cases hs
  rename_i hc
  obtain ⟨hk, h0, h1⟩ := hc
  obtain ⟨n, rfl⟩ := Int.eq_ofNat_of_zero_le h0
  cases hs
  refine ⟨by simp [lf99], ?_⟩
  have hn : n < 256 := by omega
  unfold digE digTab at hk
  have hn5 : n ≤ 255 := by omega
  have ht : List.take 1 (List.drop n (List.map (AVal.p ∘ fun i => PVal.bool (decide (48 ≤ i) && decide (i < 58))) (List.range 256))) = [.p (.bool (decide (48 ≤ n) && decide (n < 58)))] := by
    rw [List.drop_eq_getElem_cons (by simpa using hn)]
    simp
  have h48 : decide ((48 : Int) ≤ n) = decide (48 ≤ n) := decide_eq_decide.2 (by omega)
  have h58 : decide ((n : Int) < 58) = decide (n < 58) := decide_eq_decide.2 (by omega)
  simp [lf99, retQ, hk, hn, h1, hn5, ht, h48, h58]
noncomputable def Tas : Tab := Tab.none.own 99 contM
theorem Tas_ok : TabOk Tryz.prog base Tas := Tab.own_ok Tab.none_ok cont_ok
theorem Tas_mu (a : List AVal) (H : Heap) : Tas.mu 99 a H = contM a H := (rfl)
def dropR (s : List UInt8) : List UInt8 := (s.reverse.dropWhile isD).reverse
theorem dropR_snoc (s : List UInt8) (c : UInt8) : dropR (s ++ [c]) = if isD c then dropR s else s ++ [c] := by
  unfold dropR
  rw [List.reverse_append]
  simp only [List.reverse_cons, List.reverse_nil, List.nil_append, List.singleton_append, List.dropWhile_cons]
  split
  · rfl
  · simp
open Classical in
noncomputable def tlM : List AVal → Heap → Option (AVal × Heap)
  | [.p (.str s), .optr k 0 0 0], H => if H[k]? = some digE then some (.p (.str (s.dropWhile isD)), H) else none
  | _, _ => none
theorem tlM_at {H : Heap} {k : Nat} (h : H[k]? = some digE) (s : List UInt8) : tlM [.p (.str s), .optr k 0 0 0] H = some (.p (.str (s.dropWhile isD)), H) := by
  unfold tlM
  simp only
  rw [if_pos h]
open Classical in
noncomputable def trM : List AVal → Heap → Option (AVal × Heap)
  | [.p (.str s), .optr k 0 0 0], H => if H[k]? = some digE then some (.p (.str (dropR s)), H) else none
  | _, _ => none
theorem trM_at {H : Heap} {k : Nat} (h : H[k]? = some digE) (s : List UInt8) : trM [.p (.str s), .optr k 0 0 0] H = some (.p (.str (dropR s)), H) := by
  unfold trM
  simp only
  rw [if_pos h]
theorem tl_ok : MuOk Tryz.prog base 97 tlM := by
  refine own_of_vc hmix Tas_ok globNone low97 fun args H r H' hs hf => ?_
  unfold tlM at hs
  split at hs
  case h_2 => cases hs
  rename_i s k
  split at hs
  case isFalse => cases hs
  rename_i hk
  cases hs
  have hlen := (hf (.p (.str s)) (by simp) _ rfl).str
  unfold maxLen at hlen
  refine ⟨by simp [lf97], ?_⟩
  simp [lf97]
  simp only [lf97_B0, vc_block]
  refine loop_ind (fun fr H2 => ∃ z : List UInt8, H2 = H ∧ z.length ≤ s.length ∧ z.dropWhile isD = s.dropWhile isD ∧ fr 0 = .p (.str z) ∧ fr 1 = .optr k 0 0 0) (fun fr _ => match fr 0 with | .p (.str z) => z.length | _ => 0) ⟨s, rfl, Nat.le_refl _, rfl, by simp, by simp⟩ ?_
  rintro fr H2 ⟨z, rfl, hz, hd, h0, h1⟩
  match z, hz, hd, h0 with
  | [], hz, hd, h0 =>
    have hd' : s.dropWhile isD = [] := hd.symm
    simp [h0, retQ, hd']
  | c :: z, hz, hd, h0 =>
    simp only [List.length_cons] at hz
    have hl : (0 : Int) < (z.length : Int) + 1 := by omega
    have hl1 : (1 : Int) ≤ (z.length : Int) + 1 := by omega
    have hc := contM_at hk c
    cases hcd : isD c with
    | true =>
      rw [hcd] at hc
      rw [List.dropWhile_cons, hcd, if_pos rfl] at hd
      simp [h0, h1, hl, hl1, hc, Tas_mu]
      exact ⟨by omega, hd⟩
    | false =>
      rw [hcd] at hc
      rw [List.dropWhile_cons, hcd] at hd
      have hd' : s.dropWhile isD = c :: z := hd.symm
      simp [h0, h1, hl, hc, Tas_mu, retQ, hd']
theorem tr_ok : MuOk Tryz.prog base 60 trM := by
  refine own_of_vc hmix Tas_ok globNone low60 fun args H r H' hs hf => ?_
  unfold trM at hs
  split at hs
  case h_2 => cases hs
  rename_i s k
  split at hs
  case isFalse => cases hs
  rename_i hk
  cases hs
  have hlen := (hf (.p (.str s)) (by simp) _ rfl).str
  unfold maxLen at hlen
  refine ⟨by simp [lf60], ?_⟩
  simp [lf60]
  simp only [lf60_B0, vc_block]
  refine loop_ind (fun fr H2 => ∃ z : List UInt8, H2 = H ∧ z.length ≤ s.length ∧ dropR z = dropR s ∧ fr 0 = .p (.str z) ∧ fr 1 = .optr k 0 0 0) (fun fr _ => match fr 0 with | .p (.str z) => z.length | _ => 0) ⟨s, rfl, Nat.le_refl _, rfl, by simp, by simp⟩ ?_
  rintro fr H2 ⟨z, rfl, hz, hd, h0, h1⟩
  rcases List.eq_nil_or_concat z with rfl | ⟨z, c, rfl⟩
  · have : dropR [] = [] := rfl
    rw [this] at hd
    simp [h0, retQ, ← hd]
  · rw [List.concat_eq_append] at *
    simp only [List.length_append, List.length_cons, List.length_nil] at hz
    have hl : (0 : Int) < (z.length : Int) + 1 := by omega
    have hc := contM_at hk c
    have hw : IntKind.i64.wrap (z.length : Int) = (z.length : Int) := IntWalk.i64_in _ (by omega)
    have hl1 : (z.length : Int) ≤ (z.length : Int) + 1 := by omega
    rw [dropR_snoc] at hd
    cases hcd : isD c with
    | true =>
      rw [hcd] at hc hd
      rw [if_pos rfl] at hd
      simp [h0, h1, hl, hl1, hc, hw, Tas_mu]
      exact ⟨by omega, hd⟩
    | false =>
      rw [hcd] at hc hd
      have hd' : dropR s = z ++ [c] := hd.symm
      simp [h0, h1, hl, hc, hw, Tas_mu, retQ, hd']
noncomputable def Ttd : Tab := ((Tab.none.with 59 (pureS sMake)).own 60 trM).own 97 tlM
theorem Ttd_ok : TabOk Tryz.prog base Ttd := Tab.own_ok (Tab.own_ok (Tab.with_ok Tab.none_ok make_ok) tr_ok) tl_ok
theorem Ttd_make : Ttd.fn 59 = pureS sMake := (rfl)
theorem Ttd_none (a : List AVal) (H : Heap) : Ttd.mu 59 a H = none := (rfl)
theorem Ttd_r (a : List AVal) (H : Heap) : Ttd.mu 60 a H = trM a H := (rfl)
theorem Ttd_l (a : List AVal) (H : Heap) : Ttd.mu 97 a H = tlM a H := (rfl)
theorem allP_map : ∀ l : List PVal, allP (l.map AVal.p) = some l
  | [] => rfl
  | x :: r => by simp [allP, allP_map r]
def sTrimD : List PVal → Option PVal
  | [.str s, .str c] => if c = tenD then some (.str ((dropR s).dropWhile isD)) else none
  | _ => none
theorem sTrimD_at (s : List UInt8) : sTrimD [.str s, .str [48, 49, 50, 51, 52, 53, 54, 55, 56, 57]] = some (.str ((dropR s).dropWhile isD)) := by
  simp only [sTrimD]
  rw [if_pos (by rfl)]
set_option maxHeartbeats 1000000 in
theorem trimD_ok : FnOk Tryz.prog base 57 (pureS sTrimD) := by
  refine pure_of_vc hmix Ttd_ok globNone low57 fun args z hs hf => ?_
  unfold sTrimD at hs
  split at hs
  case h_2 => cases hs
  rename_i s c
  split at hs
  case isFalse => cases hs
  rename_i hc
  subst hc
  cases hs
  refine ⟨by simp [lf57], ?_⟩
  have hm : sMake [.str tenD] = some (.tup [digTab, .bool true]) := by simp only [sMake, if_true]
  have hE : [(⟨256, 0, false, [.p digTab], 76⟩ : Ent)][0]? = some digE := rfl
  have h1 := trM_at hE s
  have h2 := tlM_at hE (dropR s)
  obtain ⟨dt, hdt, hcl, hcc⟩ : ∃ dt, digTab = .agg dt ∧ dt.length = 256 ∧ ∀ x ∈ dt, ∃ b, x = .bool b := ⟨_, rfl, by simp, fun x hx => by
    obtain ⟨i, _, rfl⟩ := List.mem_map.1 hx
    exact ⟨_, rfl⟩⟩
  rw [hdt] at hm h1 h2 hE
  unfold tenD at hm ⊢
  by_cases hz : s = []
  · subst hz
    have hd : dropR [] = [] := rfl
    simp [lf57, hd, binS]
  · have he : s.isEmpty = false := by simpa using hz
    have hap : allP (dt.map AVal.p) = some dt := allP_map dt
    simp [lf57, binS, hz, he, hm, h1, h2, hcl, hap, Ttd_make, Ttd_none, Ttd_r, Ttd_l]
    rw [if_pos (fun x hx => by obtain ⟨b, rfl⟩ := hcc x hx; rfl)]
    simp [h1, h2, Ttd_r, Ttd_l]
def sTLB : List PVal → Option PVal
  | [.str s, .int .u8 b] => if b = 48 then some (.str (s.dropWhile (· == 48))) else none
  | _ => none
theorem tlb_ok : FnOk Tryz.prog base 96 (pureS sTLB) := by
  refine pure_of_vc hmix Tab.none_ok globNone low96 fun args z hs hf => ?_
  unfold sTLB at hs
  split at hs
  case h_2 => cases hs
  rename_i s b
  split at hs
  case isFalse => cases hs
  rename_i hb
  subst hb
  cases hs
  refine ⟨by simp [lf96], ?_⟩
  simp [lf96]
  simp only [lf96_B0, vc_block]
  refine loop_ind (fun fr H2 => ∃ z : List UInt8, H2 = [] ∧ z.dropWhile (· == 48) = s.dropWhile (· == 48) ∧ fr 0 = .p (.str z) ∧ fr 1 = .p (.int .u8 48)) (fun fr _ => match fr 0 with | .p (.str z) => z.length | _ => 0) ⟨s, rfl, rfl, by simp, by simp⟩ ?_
  rintro fr H2 ⟨z, rfl, hd, h0, h1⟩
  match z, hd, h0 with
  | [], hd, h0 =>
    have hd' : s.dropWhile (· == 48) = [] := hd.symm
    simp [h0, hd']
  | c :: z, hd, h0 =>
    have hl : (0 : Int) < (z.length : Int) + 1 := by omega
    have hl1 : (1 : Int) ≤ (z.length : Int) + 1 := by omega
    by_cases hcd : c = 48
    · subst hcd
      rw [List.dropWhile_cons, if_pos (by rfl)] at hd
      have h48 : (UInt8.toNat 48 : Int) = 48 := rfl
      simp [h0, h1, hl, hl1]
      exact hd
    · have hci : ((c.toNat : Int) == 48) = false := beq_false_of_ne (fun e => hcd (UInt8.toNat_inj.1 (by rw [show UInt8.toNat 48 = 48 from rfl]; omega)))
      rw [List.dropWhile_cons, if_neg (by simpa using hcd)] at hd
      have hd' : s.dropWhile (· == 48) = c :: z := hd.symm
      simp [h0, h1, hl, hci, hd']
def Ttl : Tab := Tab.none.with 96 (pureS sTLB)
theorem Ttl_ok : TabOk Tryz.prog base Ttl := Tab.with_ok Tab.none_ok tlb_ok
theorem Ttl_mu (f : FuncId) (a : List AVal) (H : Heap) : Ttl.mu f a H = none := (rfl)
theorem Ttl_fn : Ttl.fn 96 = pureS sTLB := (rfl)
def sTL : List PVal → Option PVal
  | [.str s, .str c] => if c = [48] then some (.str (s.dropWhile (· == 48))) else none
  | _ => none
theorem sTL_at (s : List UInt8) : sTL [.str s, .str [48]] = some (.str (s.dropWhile (· == 48))) := by simp only [sTL, if_true]
theorem trimL_ok : FnOk Tryz.prog base 65 (pureS sTL) := by
  refine pure_of_vc hmix Ttl_ok globNone low65 fun args z hs hf => ?_
  unfold sTL at hs
  split at hs
  case h_2 => cases hs
  rename_i s c
  split at hs
  case isFalse => cases hs
  rename_i hc
  subst hc
  cases hs
  refine ⟨by simp [lf65], ?_⟩
  have h1 : sTLB [.str s, .int .u8 48] = some (.str (s.dropWhile (· == 48))) := by simp only [sTLB, if_true]
  by_cases hz : s = []
  · subst hz
    simp [lf65, binS]
  · have he : s.isEmpty = false := by simpa using hz
    simp [lf65, binS, hz, he, h1, Ttl_mu, Ttl_fn]
/-! ### Digits -/
theorem dw_all (p : UInt8 → Bool) : ∀ r : List UInt8, (r.dropWhile p).all p = r.all p
  | [] => rfl
  | x :: r => by
    rw [List.dropWhile_cons]
    cases h : p x with
    | true => simp [dw_all p r, h]
    | false => simp [h]
theorem dw_nil (p : UInt8 → Bool) : ∀ r : List UInt8, r.dropWhile p = [] ↔ r.all p = true
  | [] => by simp
  | x :: r => by
    rw [List.dropWhile_cons]
    cases h : p x with
    | true => simp [h]; simpa using dw_nil p r
    | false => simp [h]
theorem trim_nil (s : List UInt8) : (dropR s).dropWhile isD = [] ↔ s.all isD = true := by
  rw [dw_nil]
  unfold dropR
  rw [List.all_reverse, dw_all, List.all_reverse]
def digS (s : List UInt8) : Bool := !s.isEmpty && s.all isD
def sDig : List PVal → Option PVal
  | [.str s] => some (.bool (digS s))
  | _ => none
theorem sDig_at (s : List UInt8) : sDig [.str s] = some (.bool (digS s)) := rfl
def Tdg : Tab := Tab.none.with 57 (pureS sTrimD)
theorem Tdg_ok : TabOk Tryz.prog base Tdg := Tab.with_ok Tab.none_ok trimD_ok
theorem Tdg_mu (f : FuncId) (a : List AVal) (H : Heap) : Tdg.mu f a H = none := (rfl)
theorem Tdg_fn : Tdg.fn 57 = pureS sTrimD := (rfl)
theorem digits_ok : FnOk Tryz.prog base 24 (pureS sDig) := by
  refine pure_of_vc hmix Tdg_ok globNone low24 fun args z hs hf => ?_
  unfold sDig at hs
  split at hs
  case h_2 => cases hs
  rename_i s
  cases hs
  refine ⟨by simp [lf24], ?_⟩
  have h1 := sTrimD_at s
  by_cases hz : s = []
  · subst hz
    simp [lf24, binS, digS]
  · obtain ⟨t, ht⟩ : ∃ t, t = (dropR s).dropWhile isD := ⟨_, rfl⟩
    rw [← ht] at h1
    have hn := trim_nil s
    rw [← ht] at hn
    have he : s.isEmpty = false := by simpa using hz
    by_cases h0 : t = []
    · have := hn.1 h0
      simp [lf24, binS, hz, h1, h0, digS, he, this, Tdg_mu, Tdg_fn]
    · have ha : s.all isD = false := by
        cases h : s.all isD with
        | true => exact absurd (hn.2 h) h0
        | false => rfl
      simp [lf24, binS, hz, h1, h0, digS, he, ha, Tdg_mu, Tdg_fn]
end
end Go.Proofs.YtgdpephlpdonnaaGreatDoor

/-
  strconv.ParseUint of digits; nat.Read and nat.Parse.
-/
namespace Go.Proofs.YtgdpephlpdonnaaGreatDoor
open Go Go.Abs Go.Limbs Go.RowKit
variable {base : Prot}
set_option maxRecDepth 20000
/-! ### The number that digits spell -/
def numD : Nat → List UInt8 → Nat
  | acc, [] => acc
  | acc, c :: r => numD (acc * 10 + (c.toNat - 48)) r
theorem numD_acc : ∀ (l : List UInt8) (acc : Nat), numD acc l = acc * 10 ^ l.length + numD 0 l
  | [], acc => by rw [show numD acc [] = acc from rfl, show numD 0 [] = 0 from rfl, List.length_nil, Nat.pow_zero, Nat.mul_one, Nat.add_zero]
  | c :: r, acc => by
    have h1 := numD_acc r (acc * 10 + (c.toNat - 48))
    have h2 := numD_acc r (c.toNat - 48)
    have e0 : numD 0 (c :: r) = numD (c.toNat - 48) r := by
      rw [show numD 0 (c :: r) = numD (0 * 10 + (c.toNat - 48)) r from rfl, Nat.zero_mul, Nat.zero_add]
    have e1 : numD acc (c :: r) = numD (acc * 10 + (c.toNat - 48)) r := rfl
    rw [e0, h2, e1, h1, List.length_cons, Nat.pow_succ]
    generalize c.toNat - 48 = d
    generalize 10 ^ r.length = p
    generalize numD 0 r = q
    rw [Nat.add_mul, Nat.mul_assoc, Nat.mul_comm 10 p, Nat.add_assoc]
theorem numD_append : ∀ (a b : List UInt8) (acc : Nat), numD acc (a ++ b) = numD (numD acc a) b
  | [], _, _ => rfl
  | c :: r, b, acc => numD_append r b (acc * 10 + (c.toNat - 48))
theorem numD_ge (l : List UInt8) (acc : Nat) : acc ≤ numD acc l := by
  rw [numD_acc]
  have : 1 ≤ 10 ^ l.length := Nat.one_le_pow _ _ (by decide)
  have := Nat.mul_le_mul_left acc this
  omega
theorem isD_bound {c : UInt8} (h : isD c = true) : 48 ≤ c.toNat ∧ c.toNat ≤ 57 := by
  unfold isD at h
  have := of_decide_eq_true h
  omega
theorem numD_lt : ∀ (l : List UInt8), l.all isD = true → numD 0 l < 10 ^ l.length
  | [], _ => by rw [show numD 0 [] = 0 from rfl]; exact Nat.one_pos
  | c :: r, h => by
    simp only [List.all_cons, Bool.and_eq_true] at h
    have h1 := numD_lt r h.2
    have h2 := isD_bound h.1
    rw [show numD 0 (c :: r) = numD (0 * 10 + (c.toNat - 48)) r from rfl, List.length_cons, numD_acc, Nat.pow_succ]
    have h3 : (0 * 10 + (c.toNat - 48)) * 10 ^ r.length ≤ 9 * 10 ^ r.length := Nat.mul_le_mul_right _ (by omega)
    omega
theorem numD_drop : ∀ (l : List UInt8), numD 0 (l.dropWhile (· == 48)) = numD 0 l
  | [] => rfl
  | c :: r => by
    rw [List.dropWhile_cons]
    by_cases h : c = 48
    · subst h
      rw [if_pos (by rfl), numD_drop r]
      rfl
    · rw [if_neg (by simpa using h)]
theorem all_drop (l : List UInt8) (p q : UInt8 → Bool) (h : l.all p = true) : (l.dropWhile q).all p = true := by
  rw [List.all_eq_true] at h ⊢
  exact fun x hx => h x ((List.dropWhile_sublist q).mem hx)
theorem parse_ok : ∀ (l : List UInt8) (acc : Nat), l.all isD = true → numD acc l < B → Lib.parseUintM (2 ^ 64 - 1) acc l = .ok (numD acc l)
  | [], acc, _, _ => rfl
  | c :: r, acc, h, hl => by
    simp only [List.all_cons, Bool.and_eq_true] at h
    have h2 := isD_bound h.1
    have h3 : acc * 10 + (c.toNat - 48) ≤ numD acc (c :: r) := numD_ge r _
    rw [B_lit] at hl
    have e : (2 : Nat) ^ 64 - 1 = 18446744073709551615 := by decide
    have ih := parse_ok r (acc * 10 + (c.toNat - 48)) h.2 (by rw [B_lit]; exact hl)
    rw [e] at ih ⊢
    simp only [Lib.parseUintM]
    rw [if_pos h2, if_neg (by omega), if_neg (by omega)]
    exact ih
/-! ### strconv.ParseUint -/
def sPU : List PVal → Option PVal
  | [.str s, .int .i64 b, .int .i64 z] => if b = 10 ∧ z = 64 ∧ s ≠ [] ∧ s.all isD = true ∧ numD 0 s < B ∧ s.length ≤ 100000 then some (.tup [.int .u64 (numD 0 s : Nat), .nili]) else none
  | _ => none
theorem sPU_at {s : List UInt8} (h0 : s ≠ []) (h1 : s.all isD = true) (h2 : numD 0 s < B) (h3 : s.length ≤ 100000) : sPU [.str s, .int .i64 10, .int .i64 64] = some (.tup [.int .u64 (numD 0 s : Nat), .nili]) := by
  simp only [sPU]
  rw [if_pos ⟨by trivial, by trivial, h0, h1, h2, h3⟩]
theorem parseU_ok : FnOk Tryz.prog base 66 (pureS sPU) := by
  refine fn_of_calls (by kernel_rfl) fun ps x hs c w vs hb hl hr => ?_
  unfold sPU at hs
  split at hs
  case h_2 => cases hs
  rename_i s b z
  split at hs
  case isFalse => cases hs
  rename_i hc
  obtain ⟨rfl, rfl, h0, h1, h2, h3⟩ := hc
  cases hs
  match vs, hl with
  | [v0, v1, v2], _ =>
    have r0 := hr 0 _ v0 rfl rfl
    have r1 := hr 1 _ v1 rfl rfl
    have r2 := hr 2 _ v2 rfl rfl
    cases r0
    cases r1
    cases r2
    have hp : Lib.parseUintB 64 (⟨s.toArray⟩ : ByteArray).data.toList = .ok (numD 0 s) := by
      unfold Lib.parseUintB
      rw [if_neg (by simpa using h0)]
      exact parse_ok s 0 h1 h2
    refine (Tryz.strconv_ParseUint_10_at64_ok ⟨s.toArray⟩ (by show s.toArray.size ≤ _; simp; omega) _ hp w).mono ?_
    rintro e w' ⟨rfl, hw⟩
    refine ⟨_, rfl, ?_, ?_⟩
    · refine .tup _ _ rfl fun j a b h1 h2 => ?_
      match j, h1, h2 with
      | 0, h1, h2 => cases h1; cases h2; exact .int _ _
      | 1, h1, h2 => cases h1; cases h2; exact .nili
    · rcases hw with rfl | rfl
      · exact Below.refl _ _
      · exact Lib.bytesWorld_below _ _ _
end Go.Proofs.YtgdpephlpdonnaaGreatDoor

/-
  nat.Read and nat.Parse.
-/
namespace Go.Proofs.YtgdpephlpdonnaaGreatDoor
open Go Go.Abs Go.Limbs
variable {base : Prot}
set_option maxRecDepth 20000
attribute [local irreducible] vc
attribute [local simp] pureS touchV freezeL fuel shiftV u64 au
def Trd : Tab := ((((Tab.none.with 65 (pureS sTL)).with 66 (pureS sPU)).with 39 (pureS sTimes)).with 67 (pureS sPlus)).with 68 (pureS sTrim)
theorem Trd_ok : TabOk Tryz.prog base Trd := Tab.with_ok (Tab.with_ok (Tab.with_ok (Tab.with_ok (Tab.with_ok Tab.none_ok trimL_ok) parseU_ok) times_ok) plus_ok) trim_ok
theorem Trd_mu (f : FuncId) (a : List AVal) (H : Heap) : Trd.mu f a H = none := (rfl)
theorem Trd_fns : Trd.fn 65 = pureS sTL ∧ Trd.fn 66 = pureS sPU ∧ Trd.fn 39 = pureS sTimes ∧ Trd.fn 67 = pureS sPlus ∧ Trd.fn 68 = pureS sTrim := ⟨rfl, rfl, rfl, rfl, rfl⟩
def sRead : List PVal → Option PVal
  | [.str s] => if s.all isD = true ∧ s.length ≤ 90000 then some (numP (numD 0 s)) else none
  | _ => none
theorem sRead_at {s : List UInt8} (h : s.all isD = true) (h2 : s.length ≤ 90000) : sRead [.str s] = some (.lst ((limbs (numD 0 s)).map u64)) := by
  simp only [sRead]
  rw [if_pos ⟨h, h2⟩]; rfl
theorem len_dig {m k : Nat} (h : m < 10 ^ k) : len m ≤ k := len_le (Nat.lt_of_lt_of_le h (Nat.pow_le_pow_left (by decide) k))
theorem read_ok : FnOk Tryz.prog base 27 (pureS sRead) := by
  refine pure_of_vc hmix Trd_ok globNone low27 fun args z hs hf => ?_
  unfold sRead at hs
  split at hs
  case h_2 => cases hs
  rename_i s
  split at hs
  case isFalse => cases hs
  rename_i hc
  obtain ⟨hall, hlen⟩ := hc
  cases hs
  refine ⟨by simp [lf27], ?_⟩
  have h1 := sTL_at s
  obtain ⟨t, ht⟩ : ∃ t, t = s.dropWhile (· == 48) := ⟨_, rfl⟩
  have htv : numD 0 t = numD 0 s := by rw [ht]; exact numD_drop s
  have hta : t.all isD = true := by rw [ht]; exact all_drop _ _ _ hall
  have htl : t.length ≤ s.length := by rw [ht]; exact (List.dropWhile_sublist _).length_le
  rw [← ht] at h1
  have hN := numD_lt s hall
  obtain ⟨N, hNN⟩ : ∃ t, t = numD 0 s := ⟨_, rfl⟩
  rw [← hNN] at htv hN ⊢
  simp [lf27, h1, Trd_mu, Trd_fns]
  simp only [lf27_B0, vc_block]
  refine loop_ind (fun fr H => ∃ (u : List UInt8) (m : Nat), u.all isD = true ∧ u.length ≤ 90000 ∧ (m = 0 ∨ u.length % 19 = 0) ∧ m * 10 ^ u.length + numD 0 u = N ∧ fr 0 = .p (.str u) ∧ (fr 2 = .p (.lst ((limbs m).map u64)) ∨ (m = 0 ∧ fr 2 = .tight [])))
    (fun fr _ => match fr 0 with | .p (.str z) => z.length | _ => 0) ⟨t, 0, hta, by omega, .inl rfl, by rw [htv]; simp, by simp, .inr ⟨rfl, by simp⟩⟩ ?_
  rintro fr H ⟨u, m, hua, hul, hmod, hval, f0, f2⟩
  by_cases hz : u = []
  · subst hz
    have hm : m = N := by rw [← hval, show numD 0 [] = 0 from rfl]; simp
    subst hm
    rcases f2 with f2 | ⟨rfl, f2⟩
    · simp [f0, f2, binS, numP, lstP]
    · simp [f0, f2, binS, numP, lstP, limbs_zero]
  · have hue : u.isEmpty = false := by simpa using hz
    have hu0 : 0 < u.length := List.length_pos_iff.2 hz
    obtain ⟨L, hL⟩ : ∃ t, t = u.length := ⟨_, rfl⟩
    obtain ⟨k, hk⟩ : ∃ k, k = (L - 1) % 19 + 1 := ⟨_, rfl⟩
    rw [← hL] at hu0 hul hmod hval
    have hkL : k ≤ L := by have := Nat.mod_le (L - 1) 19; omega
    have hk19 : k ≤ 19 := by omega
    have w1 : IntKind.i64.wrap ((L : Int) - 1) = ((L - 1 : Nat) : Int) := by rw [IntWalk.i64_in _ (by omega)]; omega
    obtain ⟨j, hj⟩ : ∃ t, t = (L - 1) % 19 := ⟨_, rfl⟩
    rw [← hj] at hk
    have w2 : (((L - 1 : Nat) : Int)).tmod 19 = (j : Int) := by rw [hj]; rfl
    have w3 : IntKind.i64.wrap ((j : Int) + 1) = (k : Int) := by rw [IntWalk.i64_in _ (by omega)]; omega
    obtain ⟨a, ha⟩ : ∃ t, t = u.take k := ⟨_, rfl⟩
    obtain ⟨b, hb⟩ : ∃ t, t = u.drop k := ⟨_, rfl⟩
    have hab : u = a ++ b := by rw [ha, hb, List.take_append_drop]
    have hal : a.length = k := by rw [ha, List.length_take]; omega
    have hbl : b.length = L - k := by rw [hb, List.length_drop]; omega
    rw [hab, List.all_append, Bool.and_eq_true] at hua
    have ha0 : a ≠ [] := fun e => by rw [e] at hal; simp at hal; omega
    have hn := numD_lt a hua.1
    obtain ⟨n, hnn⟩ : ∃ t, t = numD 0 a := ⟨_, rfl⟩
    have hnv : numD 0 u = n * 10 ^ (L - k) + numD 0 b := by rw [hab, numD_append, ← hnn, numD_acc b n, hbl]
    rw [← hnn, hal] at hn
    have hn19 : n < big := by rw [big_pow]; exact Nat.lt_of_lt_of_le hn (Nat.pow_le_pow_right (by decide) hk19)
    have hnB : n < B := Nat.lt_trans hn19 (by decide)
    have hpu := sPU_at ha0 hua.1 (by rw [← hnn]; exact hnB) (by omega)
    rw [← hnn] at hpu
    have hNb : m * 10 ^ L + numD 0 u = N := hval
    have hmN : m ≤ N := by
      rw [← hval]
      have : 1 ≤ 10 ^ L := Nat.one_le_pow _ _ (by decide)
      have := Nat.mul_le_mul_left m this
      omega
    have hlm : len m ≤ 90000 := Nat.le_trans (len_mono hmN) (Nat.le_trans (len_dig hN) hlen)
    have hlb : limbs big = [big] := limbs_small (by decide) (by decide)
    have hlbl : len big ≤ 100000 := by rw [len, hlb]; decide
    have hT := sTimes_num (a := m) (b := big) (by omega) hlbl
    rw [hlb] at hT
    simp only [List.map_cons, List.map_nil, u64] at hT
    have hbig : (big : Int) = 10000000000000000000 := rfl
    rw [hbig] at hT
    have hTr := sTrim_map (l := [n]) (Wf.cons hnB Wf.nil) (by simp)
    rw [show val [n] = n from by simp [val]] at hTr
    simp only [List.map_cons, List.map_nil, u64] at hTr
    have hlmb : len (m * big) ≤ 100000 := by have := len_mul m big; rw [show len big = 1 from by rw [len, hlb]; rfl] at this; omega
    have hln : len n ≤ 100000 := by
      have : len n ≤ 1 := len_le (by rw [Nat.pow_one]; exact hnB)
      omega
    have hP := sPlus_num (a := m * big) (b := n) hlmb hln
    obtain ⟨q, hq⟩ : ∃ t, t = m * big := ⟨_, rfl⟩
    rw [← hq] at hT hP
    obtain ⟨r, hr⟩ : ∃ t, t = q + n := ⟨_, rfl⟩
    rw [← hr] at hP
    have hr2 : r * 10 ^ (L - k) + numD 0 b = N := by
      rw [← hNb, hnv, hr, hq, Nat.add_mul, Nat.add_assoc]
      congr 1
      rcases hmod with h0 | h0
      · rw [h0]; simp
      · have hk9 : k = 19 := by omega
        rw [big_pow, Nat.mul_assoc, ← Nat.pow_add, hk9]
        congr 2
        omega
    have hmod2 : (L - k) % 19 = 0 := by omega
    have hkN : (k : Int) ≤ (L : Int) := by omega
    have hb2 : b.length ≤ 90000 := by omega
    have hbu : b.length < L := by omega
    have hkpos : (0 : Int) ≤ k := by omega
    have hbd : List.drop k u = b := hb.symm
    have had : List.take k u = a := ha.symm
    rw [hL] at w1 w2 hkN
    clear hab ha hb
    rcases f2 with f2 | ⟨rfl, f2⟩
    · simp [f0, f2, hz, hue, binS, w1, w2, w3, hkN, hbd, had, hpu, hT, hTr, hP, fillS, freeze1, Trd_mu, Trd_fns]
      exact ⟨⟨b, List.all_eq_true.1 hua.2, hb2, .inr ⟨by rw [hbl]; exact hmod2, _, by rw [hbl]; exact hr2, rfl, rfl⟩⟩, by rw [← hL]; exact hbu⟩
    · rw [Nat.zero_mul] at hq
      subst hq
      rw [Nat.zero_add] at hr
      subst hr
      rw [limbs_zero] at hT hP
      simp only [List.map_nil] at hT hP
      simp [f0, f2, hz, hue, binS, w1, w2, w3, hkN, hbd, had, hpu, hT, hTr, hP, fillS, freeze1, Trd_mu, Trd_fns]
      exact ⟨⟨b, List.all_eq_true.1 hua.2, hb2, .inr ⟨by rw [hbl]; exact hmod2, _, by rw [hbl]; exact hr2, rfl, rfl⟩⟩, by rw [← hL]; exact hbu⟩
/-! ### Parse -/
end Go.Proofs.YtgdpephlpdonnaaGreatDoor

/-
  law1: same, few, awake.
-/
namespace Go.Proofs.YtgdpephlpdonnaaGreatDoor
open Go Go.Abs Go.Limbs
variable {base : Prot}
set_option maxRecDepth 20000
attribute [local irreducible] vc
attribute [local simp] pureS touchV freezeL fuel shiftV u64 au
/-! ### same -/
def sSame : List PVal → Option PVal
  | [.lst xs, .lst ys] => match decU xs, decU ys with | some a, some b => some (.bool (decide (a = b))) | _, _ => none
  | _ => none
theorem sSame_list {a b : List Nat} (ha : Wf a) (hb : Wf b) : sSame [.lst (a.map u64), .lst (b.map u64)] = some (.bool (decide (a = b))) := by simp only [sSame, decU_map ha, decU_map hb]
theorem sameL_ok : FnOk Tryz.prog base 17 (pureS sSame) := by
  refine pure_of_vc hmix Tab.none_ok globNone low17 fun args z hs hf => ?_
  unfold sSame at hs
  split at hs
  case h_2 => cases hs
  rename_i xs ys
  split at hs
  case h_2 => cases hs
  rename_i a b ha hb
  obtain ⟨rfl, wa⟩ := decU_some ha
  obtain ⟨rfl, wb⟩ := decU_some hb
  cases hs
  have hlen := (hf (.lst (a.map u64)) (by simp)).lst.1
  unfold maxLen at hlen
  simp only [List.length_map] at hlen
  refine ⟨by simp [lf17], ?_⟩
  by_cases hl : a.length = b.length
  · have hl1 : ((a.length : Int) != b.length) = false := by simp [hl]
    simp [lf17, hl1]
    simp only [lf17_B0, vc_block]
    refine loop_ind (fun fr H => ∃ i : Nat, H = [] ∧ i ≤ a.length ∧ fr 0 = .p (.lst (a.map u64)) ∧ fr 1 = .p (.lst (b.map u64)) ∧ fr 5 = .p (.int .i64 i) ∧ a.take i = b.take i) (fun fr _ => a.length - ivar (fr 5)) ⟨0, rfl, by omega, by simp, by simp, by simp, by simp⟩ ?_
    rintro fr H ⟨i, rfl, hi, h0, h1, h5, hj⟩
    by_cases h : i < a.length
    · obtain ⟨u, hx⟩ : ∃ u, a[i]? = some u := ⟨_, List.getElem?_eq_getElem h⟩
      obtain ⟨v, hy⟩ : ∃ v, b[i]? = some v := ⟨_, List.getElem?_eq_getElem (show i < b.length by omega)⟩
      have hib : i < b.length := by omega
      have hnx := getE hx
      have hny := getE hy
      by_cases he : u = v
      · subst he
        have hj' : a.take (i + 1) = b.take (i + 1) := by rw [List.take_add_one, List.take_add_one, hj, hx, hy]
        simp [h0, h1, h5, h, hib, hnx, hny, wrap_succ (i := i) (by omega), ivar]
        exact ⟨⟨i + 1, by omega, rfl, hj'⟩, by omega⟩
      · have hne : ¬ a = b := by
          rintro rfl
          rw [hx] at hy
          exact he (by cases hy; rfl)
        have hb : ((u : Int) != (v : Int)) = true := by simp; omega
        have hb2 : ((u : Int) == (v : Int)) = false := beq_false_of_ne (by omega)
        simp [h0, h1, h5, h, hib, hnx, hny, hb, hb2, hne]
    · have hil : i = a.length := by omega
      subst hil
      have hxy : a = b := by
        rw [List.take_of_length_le (Nat.le_refl _), List.take_of_length_le (by omega)] at hj
        exact hj
      simp [h0, h5, hxy]
  · have hl1 : ((a.length : Int) != b.length) = true := by simp; omega
    have hne : ¬ a = b := fun e => hl (by rw [e])
    simp [lf17, hl1, hne]
def Tsm : Tab := Tab.none.with 17 (pureS sSame)
theorem Tsm_ok : TabOk Tryz.prog base Tsm := Tab.with_ok Tab.none_ok sameL_ok
theorem Tsm_mu (f : FuncId) (a : List AVal) (H : Heap) : Tsm.mu f a H = none := (rfl)
theorem Tsm_fn : Tsm.fn 17 = pureS sSame := (rfl)
/-! ### What the document fixes -/
end Go.Proofs.YtgdpephlpdonnaaGreatDoor
