/-
  What the reference's small, ParseNat and TextNat compute. No conditions beyond the lemmas' own hypotheses.
-/
import Derived.Test.YtgdpephlpdonnaaGreatDoorRefO
import Derived.Test.YtgdpephlpdonnaaGreatDoorNatI
import Derived.Test.YtgdpephlpdonnaaGreatDoorNatE
import Derived.Test.YtgdpephlpdonnaaGreatDoorNatH
set_option linter.unusedSimpArgs false
set_option linter.unusedVariables false
set_option linter.constructorNameAsVariable false

/-
  The reference: a text's number.
-/
namespace Go.Proofs.YtgdpephlpdonnaaGreatDoor
open Go Go.Abs Go.Limbs
variable {base : Prot}
set_option maxRecDepth 20000
attribute [local irreducible] vc
attribute [local simp] pureS touchV freezeL fuel shiftV u64 au
/-! ### small -/
def sSmall : List PVal → Option PVal
  | [.lst xs, .int .u64 k, .int .u64 c] => match decN xs with | some a => if 1 ≤ k ∧ k.toNat < B ∧ 0 ≤ c ∧ c.toNat < B then some (numP (a * k.toNat + c.toNat)) else none | none => none
  | _ => none
theorem sSmall_num {a k c : Nat} (ha : len a ≤ 100000) (hk : 1 ≤ k) (hk2 : k < B) (hc : c < B) : sSmall [.lst ((limbs a).map u64), .int .u64 k, .int .u64 c] = some (.lst ((limbs (a * k + c)).map u64)) := by
  simp only [sSmall, decN_num ha]
  rw [if_pos ⟨by omega, by simpa using hk2, by omega, by simpa using hc⟩]
  simp [numP, lstP]
/-- A row whose number is not less than its length's power has no zero at its end. -/
theorem canon_of {l : List Nat} (hw : Wf l) (h : l = [] ∨ B ^ (l.length - 1) ≤ val l) : limbs (val l) = l := by
  rw [canon_last hw]
  rcases h with rfl | h
  · simp
  · intro e
    obtain ⟨r, hr⟩ : ∃ r, l = r ++ [0] := by
      rcases List.eq_nil_or_concat l with h0 | ⟨r, x, h0⟩
      · rw [h0] at e; simp at e
      · rw [List.concat_eq_append] at h0
        rw [h0] at e
        simp at e
        exact ⟨r, by rw [h0, e]⟩
    rw [hr, val_snoc] at h
    rw [hr] at hw
    have := val_lt hw.left
    simp at h
    omega
def Tsl : Tab := (Tab.none.with 73 (pureS sMul64)).ext 74 sAdd64
theorem Tsl_ok : TabOk Tryz.prog base Tsl := Tab.ext_ok (Tab.with_ok Tab.none_ok mul64_ok) add64_at
theorem Tsl_mu (f : FuncId) (a : List AVal) (H : Heap) : Tsl.mu f a H = none := (rfl)
theorem Tsl_mul : Tsl.fn 73 = pureS sMul64 := (rfl)
theorem Tsl_add : Tsl.ex 74 = sAdd64 := (rfl)
theorem small_ok : FnOk Tryz.prog base 32 (pureS sSmall) := by
  refine pure_of_vc hmix Tsl_ok globNone low32 fun args z hs hf => ?_
  unfold sSmall at hs
  split at hs
  case h_2 => cases hs
  rename_i xs k c
  split at hs
  case h_2 => cases hs
  rename_i a ha
  split at hs
  case isFalse => cases hs
  rename_i hc
  obtain ⟨hk1, hkB, hc0, hcB⟩ := hc
  obtain ⟨k, rfl⟩ := Int.eq_ofNat_of_zero_le (show 0 ≤ k by omega)
  obtain ⟨c, rfl⟩ := Int.eq_ofNat_of_zero_le hc0
  simp only [Int.toNat_natCast] at hkB hcB hs
  cases hs
  obtain ⟨rfl, hla⟩ := decN_some ha
  have wa := wf_limbs a
  have va := val_limbs a
  have la : (limbs a).length = len a := rfl
  refine ⟨by simp [lf32], ?_⟩
  have happ := app_num (H := [rowE 0 []]) (k := 0) (ver := 0) (out := []) (ys := limbs a) rfl (by simp [la]; omega)
  simp only [List.length_nil, Nat.zero_add, List.nil_append, List.set_cons_zero] at happ
  simp [rowE, la, -appV] at happ
  simp [lf32, la, fillS, au_comp, happ, -appV]
  simp only [lf32_B0, vc_block]
  refine loop_ind (fun fr H => ∃ (i : Nat) (l : List Nat) (d : Nat), i ≤ len a ∧ l.length = len a ∧ Wf l ∧ d < B ∧ val (l.take i) + B ^ i * d = val ((limbs a).take i) * k + c ∧ l.drop i = (limbs a).drop i ∧ H = [rowE 1 l] ∧
      fr 1 = .p (.int .u64 k) ∧ fr 2 = .p (.int .u64 d) ∧ fr 7 = .own 0 0 (len a) 1 ∧ fr 8 = .p (.int .i64 i))
    (fun fr _ => len a - ivar (fr 8)) ⟨0, limbs a, c, by omega, la, wa, hcB, by simp [val_nil], rfl, by simp [rowE], by simp, by simp, by simp, by simp⟩ ?_
  rintro fr H ⟨i, l, d, hi, hl, hwl, hdB, hv, hdr, rfl, f1, f2, f7, f8⟩
  by_cases hlt : i < len a
  · obtain ⟨x, hx⟩ : ∃ x, (limbs a)[i]? = some x := ⟨_, List.getElem?_eq_getElem (by omega)⟩
    have hxB := wa.get hx
    have hlx : l[i]? = some x := by
      have := congrArg (fun t => t[0]?) hdr
      simp only [List.getElem?_drop, Nat.add_zero] at this
      rw [this]; exact hx
    have hM := sMul64_nat hxB hkB
    simp only [mulH, mulL] at hM
    have hA := sAdd64_zero (x := x * k % B) (y := d)
    have e1 : addD (x * k % B) d 0 = (x * k + d) % B := by unfold addD; rw [Nat.add_zero]; exact less_low
    have e2 : addC (x * k % B) d 0 = (x * k % B + d) / B := by unfold addC; rw [Nat.add_zero]
    have e3 : x * k / B + (x * k % B + d) / B = (x * k + d) / B := less_high
    have hdl : (x * k + d) / B < B := by
      have := mac_div_lt hxB hkB hdB B_pos
      rwa [Nat.add_zero] at this
    rw [e1, e2] at hA
    obtain ⟨hi', hhi⟩ : ∃ t, t = x * k / B := ⟨_, rfl⟩
    obtain ⟨lo, hlo⟩ : ∃ t, t = x * k % B := ⟨_, rfl⟩
    rw [← hhi, ← hlo] at hM e3
    rw [← hlo] at hA
    obtain ⟨d1, hd1⟩ : ∃ t, t = (lo + d) / B := ⟨_, rfl⟩
    rw [← hd1] at hA e3
    obtain ⟨t, ht⟩ : ∃ t, t = (x * k + d) % B := ⟨_, rfl⟩
    obtain ⟨d', hd'⟩ : ∃ t, t = (x * k + d) / B := ⟨_, rfl⟩
    rw [← ht] at hA
    rw [← hd'] at e3 hdl
    have htB : t < B := by rw [ht]; exact Nat.mod_lt _ B_pos
    have hw2 : IntKind.u64.wrap ((hi' : Int) + d1) = (d' : Int) := by rw [wrap_u_add (by omega), e3]
    have hw5 := wrap_succ (i := i) (by omega)
    have he : t + B * d' = x * k + d := by rw [ht, hd']; exact Nat.mod_add_div _ _
    have hnew : val ((l.set i t).take (i + 1)) + B ^ (i + 1) * d' = val ((limbs a).take (i + 1)) * k + c := by
      rw [val_take_set (by omega), val_take_succ hx, Nat.pow_succ]
      generalize B ^ i = p at *
      generalize val (l.take i) = u at *
      generalize val ((limbs a).take i) = w at *
      grind
    simp [f1, f2, f7, f8, hlt, hl, getE hlx, hM, hA, hw2, hw5, rowE, Tsl_mu, Tsl_mul, Tsl_add, ivar]
    exact ⟨⟨i + 1, by omega, l.set i t, by simp [hl], hwl.set i htB, d', hdl, hnew, by rw [List.drop_set_of_lt (by omega), ← List.drop_drop, hdr, List.drop_drop], by rw [List.map_set]; rfl, rfl, by omega⟩, by omega⟩
  · have hil : i = len a := by omega
    subst hil
    have hva : val ((limbs a).take (len a)) = a := by rw [List.take_of_length_le (by omega)]; exact va
    rw [hva, List.take_of_length_le (by omega)] at hv
    have hak : a ≤ a * k := Nat.le_mul_of_pos_right a (by omega)
    by_cases hd0 : d = 0
    · subst hd0
      have hvl : val l = a * k + c := by simpa using hv
      have hcan : limbs (val l) = l := canon_of hwl (by
        rw [hl]
        by_cases h0 : a = 0
        · left
          subst h0
          rw [len_zero] at hl
          exact List.length_eq_zero_iff.1 hl
        · right
          have := len_ge h0
          omega)
      rw [hvl] at hcan
      have htk : List.take (len a) (l.map u64) = l.map u64 := List.take_of_length_le (by simp [hl])
      simp [f2, f7, f8, hl, rowE, hcan, htk, mapO_au_take, mapO_au, numP, lstP]
    · have hdp : (0 : Int) < d := by omega
      have hdn : 0 < d := by omega
      have hwn : Wf (l ++ [d]) := hwl.append (Wf.cons hdB Wf.nil)
      have hvl : val (l ++ [d]) = a * k + c := by rw [val_snoc, hl]; exact hv
      have hcan : limbs (val (l ++ [d])) = l ++ [d] := canon_of hwn (.inr (by
        rw [val_snoc]
        simp
        have := Nat.le_mul_of_pos_right (B ^ l.length) hdn
        omega))
      rw [hvl] at hcan
      have happ2 := app_num (H := [rowE 1 l, ⟨1, 0, false, [.p (.int .u64 d)], 40⟩]) (k := 0) (ver := 1) (out := l) (ys := [d]) rfl (by simp; omega)
      rw [hl] at happ2
      obtain ⟨L, hL⟩ : ∃ t, t = l ++ [d] := ⟨_, rfl⟩
      rw [← hL] at hcan happ2
      have hLl : L.length = len a + 1 := by rw [hL]; simp [hl]
      have htk : List.take (len a + 1) (L.map u64) = L.map u64 := List.take_of_length_le (by simp [hLl])
      simp [rowE, -appV] at happ2
      simp [f2, f7, f8, hl, rowE, hdp, hdn, fillS, happ2, -appV]
      simp [hLl, hcan, htk, mapO_au_take, mapO_au, numP, lstP]
end Go.Proofs.YtgdpephlpdonnaaGreatDoor

/-
  The reference: a number read from a text.
-/
namespace Go.Proofs.YtgdpephlpdonnaaGreatDoor
open Go Go.Abs Go.Limbs
variable {base : Prot}
set_option maxRecDepth 20000
attribute [local irreducible] vc
attribute [local simp] pureS touchV freezeL fuel shiftV u64 au
def parseR (s : List UInt8) : List Nat × Nat := if digS s then heldL (numD 0 s) else ([], 2)
def sParseR : List PVal → Option PVal
  | [.str s] => if s.length ≤ 1000 then some (pairP (parseR s)) else none
  | _ => none
theorem sParseR_at {s : List UInt8} (h : s.length ≤ 1000) : sParseR [.str s] = some (pairP (parseR s)) := by
  simp only [sParseR]
  rw [if_pos h]
theorem digS_iff (s : List UInt8) : digS s = true ↔ s ≠ [] ∧ s.all isD = true := by
  unfold digS
  cases s <;> simp
theorem numD_snoc (l : List UInt8) (c : UInt8) : numD 0 (l ++ [c]) = numD 0 l * 10 + (c.toNat - 48) := by
  rw [numD_append]
  rfl
theorem take_succ_get {α} {s : List α} {i : Nat} {c : α} (h : s[i]? = some c) : s.take (i + 1) = s.take i ++ [c] := by
  rw [List.take_add_one, h]; rfl
def Tpr : Tab := Tab.none.with 32 (pureS sSmall)
theorem Tpr_ok : TabOk Tryz.prog base Tpr := Tab.with_ok Tab.none_ok small_ok
theorem Tpr_mu (f : FuncId) (a : List AVal) (H : Heap) : Tpr.mu f a H = none := (rfl)
theorem Tpr_fn : Tpr.fn 32 = pureS sSmall := (rfl)
theorem rparse_ok : FnOk Tryz.prog base 72 (pureS sParseR) := by
  refine pure_of_vc hmix Tpr_ok globNone low72 fun args z hs hf => ?_
  unfold sParseR at hs
  split at hs
  case h_2 => cases hs
  rename_i s
  split at hs
  case isFalse => cases hs
  rename_i hl
  cases hs
  refine ⟨by simp [lf72], ?_⟩
  have hl2 : s.length ≤ 1000 := hl
  simp [lf72]
  simp only [lf72_B0, vc_block]
  refine loop_ind (fun fr H => ∃ (i m : Nat) (b : Bool), H = [] ∧ i ≤ s.length ∧ (s.take i).all isD = true ∧ (b = false → m = numD 0 (s.take i) ∧ len m ≤ 64) ∧ (b = true → 64 < len m ∧ m ≤ numD 0 (s.take i)) ∧
      fr 0 = .p (.str s) ∧ fr 5 = .p (.bool b) ∧ fr 6 = .p (.int .i64 i) ∧ (fr 4 = .p (.lst ((limbs m).map u64)) ∨ (m = 0 ∧ fr 4 = .tight [])))
    (fun fr _ => s.length - ivar (fr 6)) ⟨0, 0, false, rfl, by omega, by simp, fun _ => ⟨rfl, by rw [len_zero]; omega⟩, fun h => by simp at h, by simp, by simp, by simp, .inr ⟨rfl, by simp⟩⟩ ?_
  rintro fr H ⟨i, m, b, rfl, hi, hall, hbf, hbt, f0, f5, f6, f4⟩
  by_cases hlt : i < s.length
  · obtain ⟨c, hc⟩ : ∃ c, s[i]? = some c := ⟨_, List.getElem?_eq_getElem hlt⟩
    have hw1 := wrap_succ (i := i) (by omega)
    have hcm := List.mem_of_getElem? hc
    have htk := take_succ_get hc
    have hcx := getE hc
    by_cases hd : isD c = true
    · obtain ⟨hlo, hhi⟩ := isD_bound hd
      have h48 : ¬ (c.toNat : Int) < 48 := by omega
      have h57 : ¬ (57 : Int) < c.toNat := by omega
      have hall2 : (s.take (i + 1)).all isD = true := by rw [htk, List.all_append, hall]; simp [hd]
      have hnum : numD 0 (s.take (i + 1)) = numD 0 (s.take i) * 10 + (c.toNat - 48) := by rw [htk, numD_snoc]
      obtain ⟨d, hdd⟩ : ∃ d, d = c.toNat - 48 := ⟨_, rfl⟩
      rw [← hdd] at hnum
      cases b with
      | true =>
        obtain ⟨hb1, hb2⟩ := hbt rfl
        simp [f0, f5, f6, hlt, hcx, h48, h57, hw1, ivar]
        exact ⟨⟨i + 1, by omega, List.all_eq_true.1 hall2, m, ⟨hb1, by rw [hnum]; omega⟩, rfl, f4⟩, by omega⟩
      | false =>
        obtain ⟨hm, hlm⟩ := hbf rfl
        have hdB : d < B := by rw [B_lit]; omega
        have hw2 : IntKind.u8.wrap ((c.toNat : Int) - 48) = (d : Int) := by rw [IntWalk.u8_in _ (by omega)]; omega
        have hw3 : IntKind.u64.wrap (d : Int) = (d : Int) := wrap_u hdB
        have hS := sSmall_num (a := m) (k := 10) (c := d) (by omega) (by decide) (by decide) hdB
        rw [show ((10 : Nat) : Int) = 10 from rfl] at hS
        obtain ⟨q, hq⟩ : ∃ q, q = m * 10 + d := ⟨_, rfl⟩
        rw [← hq] at hS
        rw [← hm, ← hq] at hnum
        have hlq : (limbs q).length = len q := rfl
        rcases f4 with f4 | ⟨rfl, f4⟩
        · simp [f0, f4, f5, f6, hlt, hcx, h48, h57, hw1, hw2, hw3, hS, hlq, ivar, Tpr_mu, Tpr_fn]
          refine ⟨⟨i + 1, by omega, List.all_eq_true.1 hall2, q, ?_⟩, by omega⟩
          by_cases h64 : len q ≤ 64
          · exact .inl ⟨⟨hnum.symm, h64⟩, by omega, rfl, rfl⟩
          · exact .inr ⟨⟨by omega, by omega⟩, by omega, rfl, rfl⟩
        · rw [limbs_zero] at hS
          simp only [List.map_nil] at hS
          simp [f0, f4, f5, f6, hlt, hcx, h48, h57, hw1, hw2, hw3, hS, hlq, ivar, Tpr_mu, Tpr_fn]
          refine ⟨⟨i + 1, by omega, List.all_eq_true.1 hall2, q, ?_⟩, by omega⟩
          by_cases h64 : len q ≤ 64
          · exact .inl ⟨⟨hnum.symm, h64⟩, by omega, rfl, rfl⟩
          · exact .inr ⟨⟨by omega, by omega⟩, by omega, rfl, rfl⟩
    · have hdf : isD c = false := by simpa using hd
      have hdg : digS s = false := by
        cases h : digS s with
        | false => rfl
        | true =>
          have := List.all_eq_true.1 ((digS_iff s).1 h).2 c hcm
          rw [hdf] at this
          cases this
      by_cases h48 : (c.toNat : Int) < 48
      · simp [f0, f5, f6, hlt, hcx, h48, parseR, hdg, pairP, lstP]
      · have h57 : (57 : Int) < c.toNat := by
          by_cases h57 : (57 : Int) < c.toNat
          · exact h57
          · exfalso
            unfold isD at hdf
            have : ¬ (48 ≤ c.toNat ∧ c.toNat < 58) := by simpa using hdf
            omega
        simp [f0, f5, f6, hlt, hcx, h48, h57, parseR, hdg, pairP, lstP]
  · have hil : i = s.length := by omega
    subst hil
    rw [List.take_of_length_le (Nat.le_refl _)] at hall hbf hbt
    by_cases h0 : s = []
    · subst h0
      simp [f0, f5, f6, parseR, digS, pairP, lstP]
    · have hl0 : s.length ≠ 0 := fun e => h0 (List.length_eq_zero_iff.1 e)
      have hl0b : ((s.length : Int) == 0) = false := beq_false_of_ne (by omega)
      have hdg := (digS_iff s).2 ⟨h0, hall⟩
      cases b with
      | true =>
        obtain ⟨hb1, hb2⟩ := hbt rfl
        have := len_mono hb2
        have hh := heldL_big (n := numD 0 s) (by omega)
        simp [f0, f5, f6, hl0, hl0b, parseR, hdg, hh, pairP, lstP]
      | false =>
        obtain ⟨hm, hlm⟩ := hbf rfl
        have hh := heldL_num hlm
        rcases f4 with f4 | ⟨rfl, f4⟩
        · simp [f0, f4, f5, f6, hl0, hl0b, parseR, hdg, ← hm, hh, pairP, lstP]
        · simp [f0, f4, f5, f6, hl0, hl0b, parseR, hdg, ← hm, hh, limbs_zero, pairP, lstP]
end Go.Proofs.YtgdpephlpdonnaaGreatDoor

/-
  The reference: trim's own array; the text of a number.
-/
namespace Go.Proofs.YtgdpephlpdonnaaGreatDoor
open Go Go.Abs Go.Limbs
variable {base : Prot}
set_option maxRecDepth 20000
attribute [local irreducible] vc
attribute [local simp] pureS touchV freezeL fuel shiftV u64 au
/-- trim hands back an array of its own. -/
def sTrimO : List PVal → Option (AVal × Heap)
  | [.lst es] => match decU es with | some l => if l.length ≤ 100000 then some (.own 0 0 (len (val l)) 1, [rowE 1 (limbs (val l))]) else none | none => none
  | _ => none
theorem sTrimO_at {l : List Nat} (hw : Wf l) (h : l.length ≤ 100000) : sTrimO [.lst (l.map u64)] = some (.own 0 0 (len (val l)) 1, [rowE 1 (limbs (val l))]) := by
  simp only [sTrimO, decU_map hw]
  rw [if_pos h]
theorem rtrimO_ok : FnOk Tryz.prog base 54 sTrimO := by
  refine ⟨goodFn_of_low low54, fun args r E hs c w vs hI hr => ?_⟩
  unfold sTrimO at hs
  split at hs
  case h_2 => cases hs
  rename_i es
  split at hs
  case h_2 => cases hs
  rename_i l hd
  split at hs
  case isFalse => cases hs
  rename_i hl
  obtain ⟨rfl, hw⟩ := decU_some hd
  cases hs
  refine (calls_of_vc hmix Tab.none_ok globNone low54 (Q := fun r H => r = .own 0 0 (len (val l)) 1 ∧ H = [rowE 1 (limbs (val l))]) (by simp [lf54]) hI hr (fun _ => ?_)).mono fun e w' ⟨v, r2, H2, c', he, hq, st, i', rp⟩ => ?_
  case refine_2 =>
    obtain ⟨rfl, rfl⟩ := hq
    exact ⟨v, c', he, st, i', rp⟩
  simp [lf54]
  simp only [lf54_B0, vc_block]
  refine loop_ind (fun fr H => ∃ n : Nat, H = [] ∧ n ≤ l.length ∧ val (l.take n) = val l ∧ fr 0 = .p (.lst (l.map u64)) ∧ fr 3 = .p (.int .i64 n)) (fun fr _ => ivar (fr 3)) ⟨l.length, rfl, by omega, by simp, by simp, by simp⟩ ?_
  rintro fr H ⟨n, rfl, hn, hv, h0, h3⟩
  have hcap := mul_capI n (by omega)
  have hnI : (n : Int) ≤ l.length := by omega
  by_cases h : 0 < n
  · have hI : (0 : Int) < n := by omega
    obtain ⟨x, hx⟩ : ∃ x, l[n - 1]? = some x := ⟨_, List.getElem?_eq_getElem (by omega)⟩
    obtain ⟨n1, hn1⟩ : ∃ t, t = n - 1 := ⟨_, rfl⟩
    rw [← hn1] at hx
    have hw1 : IntKind.i64.wrap ((n : Int) - 1) = (n1 : Int) := by rw [IntWalk.i64_in _ (by omega)]; omega
    have hlt : n1 < l.length := by omega
    by_cases hz : x = 0
    · subst hz
      simp [h0, h3, hI, h, hw1, hx, getE hx, ivar]
      refine ⟨⟨n1, by omega, ?_, rfl⟩, by omega⟩
      have := trim_step (a := l) (n := n1) hx
      rw [show n1 + 1 = n by omega] at this
      rw [← this, hv]
    · have hb : ((x : Int) == 0) = false := beq_false_of_ne (by omega)
      have hres : limbs (val l) = l.take n := (trim_done (a := l) (n := n) hw hv (.inr ⟨x, by rw [← hn1]; exact hx, hz⟩)).symm
      have hln : (l.take n).length = n := by rw [List.length_take]; omega
      have hlen : len (val l) = n := by rw [len, hres, hln]
      have happ := app_num (H := [rowE 0 []]) (k := 0) (ver := 0) (out := []) (ys := l.take n) rfl (by simp; omega)
      rw [hln] at happ
      simp only [List.map_take, List.length_nil, Nat.zero_add, List.nil_append, List.set_cons_zero] at happ
      simp [rowE, au_comp, -appV] at happ
      simp [h0, h3, hI, h, hw1, hx, getE hx, hb, hres, hcap, hnI, fillS, mapO_au, touch_au, au_comp, happ, retQ, hlen, rowE, -appV]
  · have hn0 : n = 0 := by omega
    subst hn0
    have hz : val l = 0 := by rw [← hv]; rfl
    simp [h0, h3, hz, limbs_zero, fillS, retQ, len_zero, rowE]
theorem digit_val {d : Nat} (h : d < 10) : ((digit d).toNat : Int) = 48 + (d : Int) := by
  unfold digit
  rw [UInt8.toNat_ofNat']
  omega
theorem dec_leR {n k : Nat} (h : n < 10 ^ (k + 1)) : (Lib.decDigits n).length ≤ k + 1 := (pad_dec k n h).1
theorem B64_le : ∃ k, k ≤ 1279 ∧ B ^ 64 ≤ 10 ^ (k + 1) := ⟨1279, Nat.le_refl _, by decide +kernel⟩
theorem dec_pos (m : Nat) : 1 ≤ (Lib.decDigits m).length := by
  by_cases h : m < 10
  · rw [Lib.decDigits_one h]; simp
  · rw [dec_ten h]; simp
theorem dec_step {D : List UInt8} {m : Nat} {s : List UInt8} (hm : m ≠ 0) (h : D = Lib.decDigits m ++ s) :
    (m / 10 ≠ 0 → D = Lib.decDigits (m / 10) ++ (digit (m % 10) :: s)) ∧ (m / 10 = 0 → D = digit (m % 10) :: s) := by
  constructor
  · intro h1
    rw [h, dec_ten (by omega)]
    simp
  · intro h1
    have : m < 10 := by omega
    rw [h, Lib.decDigits_one this, Nat.mod_eq_of_lt this]
    rfl
theorem shiftE_row (k ver : Nat) (l : List Nat) : shiftE k (rowE ver l) = rowE ver l := by
  unfold shiftE rowE
  congr 1
  rw [List.map_map]
  exact List.map_congr_left fun x _ => by simp [au]
def Ttn : Tab := ((Tab.none.with 51 (pureS sValid)).with 94 (pureS sDiv64)).with 54 sTrimO
theorem Ttn_ok : TabOk Tryz.prog base Ttn := Tab.with_ok (Tab.with_ok (Tab.with_ok Tab.none_ok rvalid_ok) div64_ok) rtrimO_ok
theorem Ttn_mu (f : FuncId) (a : List AVal) (H : Heap) : Ttn.mu f a H = none := (rfl)
theorem Ttn_fns : Ttn.fn 51 = pureS sValid ∧ Ttn.fn 94 = pureS sDiv64 ∧ Ttn.fn 54 = sTrimO := ⟨rfl, rfl, rfl⟩
/-- A row divided by ten, from the top down, in its own place. -/
theorem ten_loop {m k ver : Nat} {s : List UInt8} {H0 : Heap} {fr0 : AFr} {R : LExit → AFr → Heap → Prop} (hm : len m ≤ 64) (hk : H0[k]? = some (rowE ver (limbs m)))
    (f3 : fr0 3 = .p (.str s)) (f4 : fr0 4 = .own k 0 (len m) ver) (f5 : fr0 5 = .p (.int .u64 0)) (f6 : fr0 6 = .p (.int .i64 ((len m : Int) - 1)))
    (hR : ∀ (fr' : AFr) (l : List Nat) (H' : Heap), l.length = len m → Wf l → val l = m / 10 → H'[k]? = some (rowE ver l) → fr' 3 = .p (.str s) → fr' 4 = .own k 0 (len m) ver → fr' 5 = .p (.int .u64 (m % 10 : Nat)) → R .normal fr' H') :
    vc Ttn lf48_B0 R fr0 H0 := by
  have la : (limbs m).length = len m := rfl
  have wa := wf_limbs m
  simp only [lf48_B0, vc_block]
  refine loop_ind (fun fr H => ∃ (n r : Nat) (l : List Nat), n ≤ len m ∧ l.length = len m ∧ Wf l ∧ r < 10 ∧ val ((limbs m).drop n) = 10 * val (l.drop n) + r ∧ l.take n = (limbs m).take n ∧ H[k]? = some (rowE ver l) ∧ fr 3 = .p (.str s) ∧
      fr 4 = .own k 0 (len m) ver ∧ fr 5 = .p (.int .u64 r) ∧ fr 6 = .p (.int .i64 ((n : Int) - 1)))
    (fun fr _ => dvar (fr 6)) ⟨len m, 0, limbs m, by omega, la, wa, by omega, by rw [List.drop_eq_nil_of_le (by omega)]; simp [val_nil], rfl, hk, f3, f4, f5, f6⟩ ?_
  rintro fr H ⟨n, r, l, hn, hl, hwl, hr, hv, htk, hkl, f3, f4, f5, f6⟩
  by_cases hn0 : 0 < n
  · obtain ⟨j, rfl⟩ : ∃ j, n = j + 1 := ⟨n - 1, by omega⟩
    have e6 : (((j + 1 : Nat) : Int) - 1) = (j : Int) := by omega
    rw [e6] at f6
    obtain ⟨x, hx⟩ : ∃ x, (limbs m)[j]? = some x := ⟨_, List.getElem?_eq_getElem (by omega)⟩
    have hxl : l[j]? = some x := by
      have := congrArg (fun t => t[j]?) htk
      simp only [List.getElem?_take, if_pos (Nat.lt_succ_self j)] at this
      rw [this]; exact hx
    have hjl : j < l.length := by omega
    have hjm : j < len m := by omega
    have hxB := wa.get hx
    have hD := sDiv64_nat (h := r) (l := x) (y := 10) hr hxB (by decide)
    rw [show ((10 : Nat) : Int) = 10 from rfl] at hD
    have hw : IntKind.i64.wrap ((j : Int) - 1) = (j : Int) - 1 := IntWalk.i64_in _ (by omega)
    unfold rowE at hkl
    simp [f3, f4, f5, f6, hkl, hxl, getE hxl, hD, hjm, hjl, hl, hw, Ttn_mu, Ttn_fns, dvar]
    have hkH : k < H.length := (List.getElem?_eq_some_iff.1 hkl).1
    refine ⟨j, by omega, divR r x 10, l.set j (divQ r x 10), by simp [hl], hwl.set _ (div_lt hr hxB), Nat.mod_lt _ (by decide), ?_, ?_, ?_, rfl, rfl⟩
    · rw [val_drop hx, drop_set_self hjl, val_cons]
      exact div_step hv
    · rw [List.take_set_of_le (Nat.le_refl _)]
      have := congrArg (List.take j) htk
      rwa [List.take_take, List.take_take, Nat.min_eq_left (by omega)] at this
    · rw [List.getElem?_set_self hkH, rowE, List.map_set]; rfl
  · have : n = 0 := by omega
    subst this
    rw [List.drop_zero, List.drop_zero, val_limbs] at hv
    obtain ⟨hq, hr2⟩ := div_done hv hr
    simp [f6]
    subst hr2
    exact hR _ l _ hl hwl hq hkl (by simp [f3]) (by simp [f4]) (by simp [f5])
theorem rtext_ok : FnOk Tryz.prog base 48 (pureS sText) := by
  refine pure_of_vc hmix Ttn_ok globNone low48 fun args z hs hf => ?_
  unfold sText at hs
  split at hs
  case h_2 => cases hs
  rename_i es
  split at hs
  case h_2 => cases hs
  rename_i l hd
  obtain ⟨rfl, hw⟩ := decU_some hd
  cases hs
  refine ⟨by simp [lf48], ?_⟩
  have hV := sValid_list hw
  cases hok : okL l with
  | false =>
    rw [hok] at hV
    simp [lf48, hV, Ttn_mu, Ttn_fns]
  | true =>
    rw [hok] at hV
    obtain ⟨n, rfl, hn⟩ : ∃ n, l = limbs n ∧ len n ≤ 64 := okL_true hok
    rw [val_limbs]
    have la : (limbs n).length = len n := rfl
    by_cases h0 : n = 0
    · subst h0
      have h48 : Lib.decDigits 0 = [48] := Lib.decDigits_one (by decide)
      rw [limbs_zero] at hV
      simp only [List.map_nil] at hV
      simp [lf48, hV, limbs_zero, h48, Ttn_mu, Ttn_fns]
    · have hl0 : len n ≠ 0 := fun e => h0 (len_eq_zero.1 e)
      have hl0b : ((len n : Int) == 0) = false := beq_false_of_ne (by omega)
      have happ := app_num (H := [rowE 0 []]) (k := 0) (ver := 0) (out := []) (ys := limbs n) rfl (by simp [la]; omega)
      simp only [List.length_nil, Nat.zero_add, List.nil_append, List.set_cons_zero] at happ
      simp [rowE, la, -appV] at happ
      simp [lf48, hV, la, hl0b, fillS, au_comp, happ, Ttn_mu, Ttn_fns, -appV]
      simp only [lf48_B1, vc_block]
      obtain ⟨D, hD⟩ : ∃ D, D = Lib.decDigits n := ⟨_, rfl⟩
      have hDl : D.length ≤ 1280 := by
        obtain ⟨k, hk, h10⟩ := B64_le
        have h := dec_leR (k := k) (Nat.lt_of_lt_of_le (lt_len _) (Nat.le_trans (Bpow_le hn) h10))
        rw [hD]; omega
      rw [← hD]
      refine loop_ind (fun fr H => ∃ (m k ver : Nat) (s : List UInt8), len m ≤ 64 ∧ H[k]? = some (rowE ver (limbs m)) ∧ (m ≠ 0 → D = Lib.decDigits m ++ s) ∧ (m = 0 → D = s) ∧
          fr 3 = .p (.str s) ∧ fr 4 = .own k 0 (len m) ver)
        (fun fr _ => match fr 3 with | .p (.str z) => D.length - z.length | _ => 0) ⟨n, 0, 1, [], hn, by simp [rowE], fun _ => by simp [hD], fun e => absurd e h0, by simp, by simp⟩ ?_
      rintro fr H ⟨m, k, ver, s, hm, hk, hd1, hd2, f3, f4⟩
      have hku := hk
      unfold rowE at hku
      by_cases hm0 : m = 0
      · subst hm0
        have hd := hd2 rfl
        rw [len_zero] at f4
        simp [f3, f4, hd, hku]
      · have hlm : 0 < len m := Nat.pos_of_ne_zero (fun e => hm0 (len_eq_zero.1 e))
        have hw1 : IntKind.i64.wrap ((len m : Int) - 1) = (len m : Int) - 1 := IntWalk.i64_in _ (by omega)
        have hDs := hd1 hm0
        obtain ⟨hn1, hn2⟩ := dec_step hm0 hDs
        have hmlen : 1 ≤ (Lib.decDigits m).length := dec_pos m
        have hsl : s.length + 1 ≤ D.length := by rw [hDs, List.length_append]; omega
        simp [f3, f4, hlm, hw1, hku]
        refine ten_loop (s := s) hm hk (by simp [f3]) (by simp [f4]) (by simp) (by simp) ?_
        intro fr' l H' hl hwl hv hk' g3 g4 g5
        obtain ⟨r, hr⟩ : ∃ r, r = m % 10 := ⟨_, rfl⟩
        rw [← hr] at g5 hn1 hn2
        have hr10 : r < 10 := by rw [hr]; exact Nat.mod_lt _ (by decide)
        have hw2 : IntKind.u64.wrap (48 + (r : Int)) = 48 + (r : Int) := IntWalk.u64_in _ (by omega)
        have hw3 : IntKind.u8.wrap (48 + (r : Int)) = ((digit r).toNat : Int) := by rw [digit_val hr10]; exact IntWalk.u8_in _ (by omega)
        have hT := sTrimO_at hwl (by omega)
        rw [hv] at hT
        unfold rowE at hk'
        have hkH : k < H'.length := (List.getElem?_eq_some_iff.1 hk').1
        have hsM : 1 + s.length ≤ maxLen := by unfold maxLen; omega
        have hby : bytesOf [.p (.int .u8 (digit r).toNat)] = some [digit r] := by simp [bytesOf]
        have htkA : List.take (len m) (l.map au) = l.map au := List.take_of_length_le (by simp [hl])
        have hkA : ∀ e : Ent, (H' ++ [e])[k]? = some ⟨1, ver, false, l.map au, 40⟩ := fun e => by rw [List.getElem?_append_left hkH]; exact hk'
        simp [g3, g4, g5, hw2, hw3, hby, hk', hkA, hT, hl, hsM, htkA, mapO_au, touch_au, fillS, binS, Ttn_mu, Ttn_fns]
        have hdm : m / 10 ≤ m := Nat.div_le_self _ _
        refine ⟨⟨m / 10, Nat.le_trans (len_mono hdm) hm, H'.length + 1, 1, ?_, digit r :: s, hn1, hn2, rfl, rfl, rfl, rfl⟩, by omega⟩
        rw [List.getElem?_append_right (by simp [size_freeze1])]
        simp [size_freeze1, shiftE_row]
end Go.Proofs.YtgdpephlpdonnaaGreatDoor
