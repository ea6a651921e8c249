/-
  What the library's numerals compute, part 1. AcvNo conditions beyond the lemmas' own hypotheses.
-/
import Derived.Test.YtbdccebpehogjaaNatA
set_option linter.unusedSimpArgs false
set_option linter.unnecessarySimpa false
set_option linter.unusedVariables false
set_option linter.constructorNameAsVariable false

/-
 nat: less and more, which take a multiple of a number from a part of an own row, or add a number to it.
-/
namespace Go.Proofs.Ytbdccebpehogjaa
open Go Go.Abs Go.Limbs
variable {base : Prot}
set_option maxRecDepth 20000
attribute [local irreducible] vc
attribute [local simp] pureS touchV freezeL fuel shiftV u64 au
theorem drop_next {s s0 : List Nat} {i o : Nat} (hdr : s.drop i = s0.drop i) (ho : s[i]? = some o) (x : Nat) : s0[i]? = some o ∧ (s.set i x).drop (i + 1) = s0.drop (i + 1) := by
 constructor
 ·rw [drop_get ho] at hdr
  have := congrArg List.head? hdr
  rw [List.head?_drop] at this
  simpa using this.symm
 ·rw [List.drop_set_of_lt (by omega)]
  have := congrArg (List.drop 1) hdr
  rw [List.drop_drop, List.drop_drop] at this
  exact this
def moreM : List AVal → Heap → Option (AVal × Heap)
 | [.own k off n ver, .p (.lst xs)], H => match rowO H k off n ver, decN xs with
  | some l, some a => if n = len a + 1 then some (.p (.tup []), H.set k (rowE ver (part l off n (seg l off n + a)))) else none
  | _, _ => none
 | _, _ => none
theorem moreM_at {H : Heap} {k off n ver a : Nat} {l : List Nat} (h : H[k]? = some (rowE ver l)) (hw : Wf l) (hl : off + n ≤ l.length) (hm : l.length ≤ 1000000) (ha : len a ≤ 100000) (hn : n = len a + 1) :
  moreM [.own k off n ver, .p (.lst ((limbs a).map u64))] H = some (.p (.tup []), H.set k (rowE ver (part l off n (seg l off n + a)))) := by
 simp only [moreM, rowO_at h hw hl hm, decN_num ha]
 rw [if_pos hn]
theorem more_ok : MuOk Try.prog base 88 moreM := by
 refine own_of_vc' hmix Trow_ok globNone low88 fun args H r H' hs hf hbel => ?_
 unfold moreM at hs
 split at hs
 case h_2 => cases hs
 rename_i k off n ver xs
 split at hs
 case h_2 => cases hs
 rename_i l a hl ha
 split at hs
 case isFalse => cases hs
 rename_i hn
 cases hs
 obtain ⟨hk, hw, hoff, hmax⟩ := rowO_some hl
 obtain ⟨rfl, hla⟩ := decN_some ha
 have hkl : k < H.length := (List.getElem?_eq_some_iff.1 hk).1
 refine ⟨by simp [lf88], by simp, below_row hbel _ _ _, .p _, ?_⟩
 have la : len a = (limbs a).length := rfl
 have wa := wf_limbs a
 obtain ⟨pre, hpre⟩ : ∃ p, p = l.take off := ⟨_, rfl⟩
 obtain ⟨post, hpost⟩ : ∃ p, p = l.drop (off + n) := ⟨_, rfl⟩
 obtain ⟨s0, hs0⟩ : ∃ p, p = (l.drop off).take n := ⟨_, rfl⟩
 have hs0l : s0.length = n := by rw [hs0]; simp; omega
 have hprel : pre.length = off := by rw [hpre]; simp; omega
 have hs0w : Wf s0 := by rw [hs0]; exact (hw.drop _).take _
 have hjoin : l = join pre s0 post := by rw [hpre, hs0, hpost]; exact join_split l hoff
 have hseg : seg l off n = val s0 := by rw [hs0]; rfl
 have hH0 : H = H.set k (rowE ver (join pre s0 post)) := by rw [← hjoin]; exact (set_same hk).symm
 rw [hseg]
 unfold part
 rw [← hpre, ← hpost]
 simp [lf88]
 simp only [lf88_B0, vc_block]
 refine loop_ind (fun fr H1 => ∃ (i : Nat) (s : List Nat) (c : Nat), i ≤ len a ∧ s.length = n ∧ Wf s ∧ c ≤ 1 ∧ val (s.take i) + B ^ i * c = val (s0.take i) + val ((limbs a).take i) ∧ s.drop i = s0.drop i ∧ H1 = H.set k (rowE ver (join pre s post)) ∧
   fr 0 = .own k off n ver ∧ fr 1 = .p (.lst ((limbs a).map u64)) ∧ fr 4 = .p (.int .u64 c) ∧ fr 7 = .p (.lst ((limbs a).map u64)) ∧ fr 8 = .p (.int .i64 (len a)) ∧ fr 9 = .p (.int .i64 i))
  (fun fr _ => len a - ivar (fr 9)) ⟨0, s0, 0, by omega, hs0l, hs0w, by omega, by simp [val_nil], rfl, hH0, by simp, by simp, by simp, by simp, by simp [la], by simp⟩ ?_
 rintro fr H1 ⟨i, s, c, hi, hsl, hsw, hc, hv, hdr, rfl, h0, h1, h4, h7, h8, h9⟩
 by_cases h : i < len a
 ·obtain ⟨x, hx⟩ : ∃ x, (limbs a)[i]? = some x := ⟨_, List.getElem?_eq_getElem (by omega)⟩
  have hxB := wa.get hx
  have his : i < s.length := by omega
  have hin : i < n := by omega
  obtain ⟨o, ho⟩ : ∃ o, s[i]? = some o := ⟨_, List.getElem?_eq_getElem his⟩
  have hoB := hsw.get ho
  have hA := sAdd64_nat (x := o) (y := x) hc
  have hjg := join_get (p := pre) (q := post) his
  rw [ho, hprel] at hjg
  have hjs := join_set (p := pre) (q := post) his (addD o x c)
  rw [hprel] at hjs
  obtain ⟨W, hW⟩ : ∃ W, W = join pre s post := ⟨_, rfl⟩
  rw [← hW] at hjg hjs
  obtain ⟨d1, d2⟩ := drop_next hdr ho (addD o x c)
  simp [h0, h1, h4, h7, h8, h9, h, hx, hA, hin, hkl, ← hW, hjg, rowE, Trow_add, wrap_succ (i := i) (by omega), ivar]
  refine ⟨⟨i + 1, by omega, s.set i (addD o x c), by simp [hsl], hsw.set _ (addD_lt _ _ _), addC o x c, add_carry hoB hxB hc, ?_, d2, by rw [hjs], rfl, by omega⟩, by omega⟩
  rw [val_take_set his, val_take_succ hx, val_take_succ d1, Nat.pow_succ]
  exact add_step hv
 ·have hil : i = len a := by omega
  subst hil
  rw [List.take_of_length_le (show (limbs a).length ≤ len a by omega), val_limbs] at hv
  have his : len a < s.length := by omega
  obtain ⟨o, ho⟩ : ∃ o, s[len a]? = some o := ⟨_, List.getElem?_eq_getElem his⟩
  have hjg := join_get (p := pre) (q := post) his
  rw [ho, hprel] at hjg
  have hjs := join_set (p := pre) (q := post) his ((o + c) % B)
  rw [hprel] at hjs
  have hfin : s.set (len a) ((o + c) % B) = fix n (val s0 + a) := by
   obtain ⟨ho', -⟩ := drop_next hdr ho 0
   have e1 : val s0 = val (s0.take (len a)) + B ^ len a * o := by
    rw [← val_take_succ ho', List.take_of_length_le (by omega)]
   have e2 := val_take_set his ((o + c) % B)
   rw [List.take_of_length_le (by simp; omega)] at e2
   refine val_inj (hsw.set _ (Nat.mod_lt _ B_pos)) (wf_fix _ _) (by simp [length_fix, hsl]) ?_
   rw [val_fix, e2, e1, hn, Nat.pow_succ, show val (s0.take (len a)) + B ^ len a * o + a = val (s.take (len a)) + B ^ len a * (o + c) by rw [Nat.mul_add]; omega, top_mod (val_take_lt hsw _)]
  rw [hfin] at hjs
  obtain ⟨W, hW⟩ : ∃ W, W = join pre s post := ⟨_, rfl⟩
  rw [← hW] at hjg hjs
  have hwr := wrap_u_mod o c
  obtain ⟨tp, htp⟩ : ∃ t, t = (o + c) % B := ⟨_, rfl⟩
  rw [← htp] at hwr hjs
  have hnn : ((len a : Nat) : Int) < (len a : Int) + 1 := by omega
  simp [hnn, h0, h1, h4, h8, h9, ← la, hkl, ← hW, hjg, hjs, hn, rowE, hwr, ownQ]
def lessM : List AVal → Heap → Option (AVal × Heap)
 | [.own k off n ver, .p (.lst xs), .p (.int .u64 z)], H => match rowO H k off n ver, decN xs with
  | some l, some a => if 0 ≤ z ∧ z.toNat < B ∧ n = len a + 1 then
    some (.p (.bool (decide (seg l off n < a * z.toNat))), H.set k (rowE ver (part l off n (seg l off n + B ^ n - a * z.toNat)))) else none
  | _, _ => none
 | _, _ => none
theorem lessM_at {H : Heap} {k off n ver z a : Nat} {l : List Nat} (h : H[k]? = some (rowE ver l)) (hw : Wf l) (hl : off + n ≤ l.length) (hm : l.length ≤ 1000000) (ha : len a ≤ 100000) (hz : z < B) (hn : n = len a + 1) :
  lessM [.own k off n ver, .p (.lst ((limbs a).map u64)), .p (.int .u64 z)] H = some (.p (.bool (decide (seg l off n < a * z))), H.set k (rowE ver (part l off n (seg l off n + B ^ n - a * z)))) := by
 simp only [lessM, rowO_at h hw hl hm, decN_num ha]
 have : (0 : Int) ≤ z ∧ (z : Int).toNat < B ∧ n = len a + 1 := ⟨by omega, by simpa using hz, hn⟩
 rw [if_pos this]
 simp
theorem lessH (y z c : Nat) : mulH y z + addC (mulL y z) c 0 = (y * z + c) / B := by
 unfold mulH mulL addC
 simp only [Nat.add_zero]
 exact less_high
theorem lessL (y z c : Nat) : addD (mulL y z) c 0 = (y * z + c) % B := by
 unfold mulL addD
 simp only [Nat.add_zero]
 exact less_low
theorem wrap_less {y z c : Nat} (hy : y < B) (hz : z < B) (hc : c < B) : IntKind.u64.wrap ((mulH y z : Int) + addC (mulL y z) c 0) = (((y * z + c) / B : Nat) : Int) := by
 have h2 := mac_div_lt hy hz hc B_pos
 rw [Nat.add_zero] at h2
 rw [wrap_u_add (by rw [lessH]; exact h2), lessH]
theorem less_end {n b z w v0 vf : Nat} (hv : vf + b * z = v0 + B ^ n * w) (hf : vf < B ^ n) (hb : b * z < B ^ n) (hw : w ≤ 1) : decide (0 < w) = decide (v0 < b * z) ∧ (v0 + B ^ n - b * z) % B ^ n = vf := by
 rcases (by omega : w = 0 ∨ w = 1) with rfl | rfl
 ·refine ⟨decide_eq_decide.2 ⟨fun h => by omega, fun h => by omega⟩, ?_⟩
  rw [show v0 + B ^ n - b * z = vf + B ^ n by omega, Nat.add_mod_right, Nat.mod_eq_of_lt hf]
 ·refine ⟨decide_eq_decide.2 ⟨fun h => by omega, fun h => by omega⟩, ?_⟩
  rw [show v0 + B ^ n - b * z = vf by omega, Nat.mod_eq_of_lt hf]
theorem less_ok : MuOk Try.prog base 87 lessM := by
 refine own_of_vc' hmix Trow_ok globNone low87 fun args H r H' hs hf hbel => ?_
 unfold lessM at hs
 split at hs
 case h_2 => cases hs
 rename_i k off n ver xs z
 split at hs
 case h_2 => cases hs
 rename_i l a hl ha
 split at hs
 case isFalse => cases hs
 rename_i hz
 cases hs
 obtain ⟨hk, hw, hoff, hmax⟩ := rowO_some hl
 obtain ⟨rfl, hla⟩ := decN_some ha
 obtain ⟨z, rfl⟩ := Int.eq_ofNat_of_zero_le hz.1
 simp only [Int.toNat_natCast] at hz ⊢
 obtain ⟨-, hzB, hn⟩ := hz
 have hkl : k < H.length := (List.getElem?_eq_some_iff.1 hk).1
 refine ⟨by simp [lf87], by simp, below_row hbel _ _ _, .p _, ?_⟩
 have la : len a = (limbs a).length := rfl
 have wa := wf_limbs a
 obtain ⟨pre, hpre⟩ : ∃ p, p = l.take off := ⟨_, rfl⟩
 obtain ⟨post, hpost⟩ : ∃ p, p = l.drop (off + n) := ⟨_, rfl⟩
 obtain ⟨s0, hs0⟩ : ∃ p, p = (l.drop off).take n := ⟨_, rfl⟩
 have hs0l : s0.length = n := by rw [hs0]; simp; omega
 have hprel : pre.length = off := by rw [hpre]; simp; omega
 have hs0w : Wf s0 := by rw [hs0]; exact (hw.drop _).take _
 have hjoin : l = join pre s0 post := by rw [hpre, hs0, hpost]; exact join_split l hoff
 have hseg : seg l off n = val s0 := by rw [hs0]; rfl
 have hH0 : H = H.set k (rowE ver (join pre s0 post)) := by rw [← hjoin]; exact (set_same hk).symm
 rw [hseg]
 unfold part
 rw [← hpre, ← hpost]
 simp [lf87]
 simp only [lf87_B0, vc_block]
 refine loop_ind (fun fr H1 => ∃ (i : Nat) (s : List Nat) (c w : Nat), i ≤ len a ∧ s.length = n ∧ Wf s ∧ c < B ∧ w ≤ 1 ∧ val (s.take i) + val ((limbs a).take i) * z = val (s0.take i) + B ^ i * (c + w) ∧ s.drop i = s0.drop i ∧ H1 = H.set k (rowE ver (join pre s post)) ∧
   fr 0 = .own k off n ver ∧ fr 1 = .p (.lst ((limbs a).map u64)) ∧ fr 2 = .p (.int .u64 z) ∧ fr 7 = .p (.int .u64 c) ∧ fr 8 = .p (.int .u64 w) ∧ fr 14 = .p (.lst ((limbs a).map u64)) ∧ fr 15 = .p (.int .i64 (len a)) ∧ fr 16 = .p (.int .i64 i))
  (fun fr _ => len a - ivar (fr 16)) ⟨0, s0, 0, 0, by omega, hs0l, hs0w, B_pos, by omega, by simp [val_nil], rfl, hH0, by simp, by simp, by simp, by simp, by simp, by simp, by simp [la], by simp⟩ ?_
 rintro fr H1 ⟨i, s, c, w, hi, hsl, hsw, hc, hwl, hv, hdr, rfl, h0, h1, h2, h7, h8, h14, h15, h16⟩
 by_cases h : i < len a
 ·obtain ⟨x, hx⟩ : ∃ x, (limbs a)[i]? = some x := ⟨_, List.getElem?_eq_getElem (by omega)⟩
  have hxB := wa.get hx
  have his : i < s.length := by omega
  have hin : i < n := by omega
  obtain ⟨o, ho⟩ : ∃ o, s[i]? = some o := ⟨_, List.getElem?_eq_getElem his⟩
  have hoB := hsw.get ho
  have hMul := sMul64_nat hxB hzB
  have hA1 := sAdd64_zero (x := mulL x z) (y := c)
  have hA2 := sSub64_nat (x := o) (y := addD (mulL x z) c 0) hwl
  have hjg := join_get (p := pre) (q := post) his
  rw [ho, hprel] at hjg
  have hjs := join_set (p := pre) (q := post) his (subD o (addD (mulL x z) c 0) w)
  rw [hprel] at hjs
  obtain ⟨W, hW⟩ : ∃ W, W = join pre s post := ⟨_, rfl⟩
  rw [← hW] at hjg hjs
  obtain ⟨d1, d2⟩ := drop_next hdr ho (subD o (addD (mulL x z) c 0) w)
  simp [h0, h1, h2, h7, h8, h14, h15, h16, h, hx, hMul, hA1, hA2, hin, hkl, ← hW, hjg, rowE, Trow_mu, Trow_mul, Trow_add, Trow_sub, wrap_succ (i := i) (by omega), ivar]
  refine ⟨⟨i + 1, by omega, s.set i (subD o (addD (mulL x z) c 0) w), by simp [hsl], hsw.set _ (subD_lt _ _ _), (x * z + c) / B, by have := mac_div_lt hxB hzB hc B_pos; rwa [Nat.add_zero] at this,
   subC o (addD (mulL x z) c 0) w, subC_le _ _ _, ?_, d2, by rw [hjs], wrap_less hxB hzB hc, rfl, by omega⟩, by omega⟩
  rw [val_take_set his, val_take_succ hx, val_take_succ d1, Nat.pow_succ, lessL]
  exact less_step hoB hwl hv
 ·have hil : i = len a := by omega
  subst hil
  rw [List.take_of_length_le (show (limbs a).length ≤ len a by omega), val_limbs] at hv
  have his : len a < s.length := by omega
  obtain ⟨o, ho⟩ : ∃ o, s[len a]? = some o := ⟨_, List.getElem?_eq_getElem his⟩
  have hoB := hsw.get ho
  have hjg := join_get (p := pre) (q := post) his
  rw [ho, hprel] at hjg
  have hjs := join_set (p := pre) (q := post) his (subD o c w)
  rw [hprel] at hjs
  have hA := sSub64_nat (x := o) (y := c) hwl
  obtain ⟨ho', -⟩ := drop_next hdr ho 0
  have e1 : val s0 = val (s0.take (len a)) + B ^ len a * o := by
   rw [← val_take_succ ho', List.take_of_length_le (by omega)]
  have e2 := val_take_set his (subD o c w)
  rw [List.take_of_length_le (by simp; omega)] at e2
  have hvf : val (s.set (len a) (subD o c w)) + a * z = val s0 + B ^ n * subC o c w := by
   have e3 := sub_eq hoB hc hwl
   rw [e1, e2, hn, Nat.pow_succ]
   generalize subD o c w = d at *
   generalize subC o c w = f at *
   have e4 : B ^ len a * (d + (c + w)) = B ^ len a * (o + B * f) := by rw [e3]
   rw [Nat.mul_add, Nat.mul_add _ o, ← Nat.mul_assoc] at e4
   omega
  have hlt := val_lt (hsw.set (len a) (subD_lt o c w))
  rw [List.length_set, hsl] at hlt
  have hbz : a * z < B ^ n := by
   rw [hn, Nat.pow_succ]
   exact Nat.mul_lt_mul'' (lt_len a) hzB
  obtain ⟨hdec, hmod⟩ := less_end hvf hlt hbz (subC_le _ _ _)
  have hfin : s.set (len a) (subD o c w) = fix n (val s0 + B ^ n - a * z) := by
   refine val_inj (hsw.set _ (subD_lt _ _ _)) (wf_fix _ _) (by simp [length_fix, hsl]) ?_
   rw [val_fix, hmod]
  rw [hfin] at hjs
  obtain ⟨W, hW⟩ : ∃ W, W = join pre s post := ⟨_, rfl⟩
  rw [← hW] at hjg hjs
  have hnn : ((len a : Nat) : Int) < (len a : Int) + 1 := by omega
  subst hn
  simp [hnn, h0, h1, h7, h8, h15, h16, ← la, hkl, ← hW, hjg, hjs, hA, rowE, Trow_sub, ownQ]
  exact decide_eq_decide.1 hdec
end Go.Proofs.Ytbdccebpehogjaa

/-
 math/bits: Len64 and LeadingZeros64.
-/
namespace Go.Proofs.Ytbdccebpehogjaa
open Go Go.Abs Go.Limbs
variable {base : Prot}
set_option maxRecDepth 20000
attribute [local irreducible] vc
attribute [local simp] pureS touchV freezeL fuel shiftV u64 au
def sLen64 : List PVal → Option PVal
 | [.int .u64 x] => if 0 ≤ x ∧ x.toNat < B then some (.int .i64 (size x.toNat)) else none
 | _ => none
theorem sLen64_nat {x : Nat} (hx : x < B) : sLen64 [.int .u64 x] = some (.int .i64 (size x)) := by
 show (if (0 : Int) ≤ x ∧ (x : Int).toNat < B then _ else none) = _
 rw [if_pos ⟨by omega, by simpa using hx⟩]
 simp
def tab8 : List UInt8 := [0, 1, 2, 2, 3, 3, 3, 3, 4, 4, 4, 4, 4, 4, 4, 4, 5, 5, 5, 5, 5, 5, 5, 5, 5, 5, 5, 5, 5, 5, 5, 5, 6, 6, 6, 6, 6, 6, 6, 6, 6, 6, 6, 6, 6, 6, 6, 6, 6, 6, 6, 6, 6, 6, 6, 6, 6, 6, 6, 6, 6, 6, 6, 6, 7, 7, 7, 7, 7, 7, 7, 7, 7, 7, 7, 7, 7, 7, 7, 7, 7, 7, 7, 7, 7, 7, 7, 7, 7, 7, 7, 7, 7, 7, 7, 7, 7, 7, 7, 7, 7, 7, 7, 7, 7, 7, 7, 7, 7, 7, 7, 7, 7, 7, 7, 7, 7, 7, 7, 7, 7, 7, 7, 7, 7, 7, 7, 7, 8, 8, 8, 8, 8, 8, 8, 8, 8, 8, 8, 8, 8, 8, 8, 8, 8, 8, 8, 8, 8, 8, 8, 8, 8, 8, 8, 8, 8, 8, 8, 8, 8, 8, 8, 8, 8, 8, 8, 8, 8, 8, 8, 8, 8, 8, 8, 8, 8, 8, 8, 8, 8, 8, 8, 8, 8, 8, 8, 8, 8, 8, 8, 8, 8, 8, 8, 8, 8, 8, 8, 8, 8, 8, 8, 8, 8, 8, 8, 8, 8, 8, 8, 8, 8, 8, 8, 8, 8, 8, 8, 8, 8, 8, 8, 8, 8, 8, 8, 8, 8, 8, 8, 8, 8, 8, 8, 8, 8, 8, 8, 8, 8, 8, 8, 8, 8, 8, 8, 8, 8, 8, 8, 8, 8, 8, 8, 8]
theorem tab8_get : ∀ y, y < 256 → tab8[y]? = some (UInt8.ofNat (size y)) := by decide +kernel
theorem size8 {y : Nat} (h : y < 256) : size y ≤ 8 := size_le_iff.2 (by omega)
theorem tab8_at {y : Nat} (h : y < 256) : ∃ b : UInt8, [0, 1, 2, 2, 3, 3, 3, 3, 4, 4, 4, 4, 4, 4, 4, 4, 5, 5, 5, 5, 5, 5, 5, 5, 5, 5, 5, 5, 5, 5, 5, 5, 6, 6, 6, 6, 6, 6, 6, 6, 6, 6, 6, 6, 6, 6, 6, 6, 6, 6, 6, 6, 6, 6, 6, 6, 6, 6, 6, 6, 6, 6, 6, 6, 7, 7, 7, 7, 7, 7, 7, 7, 7, 7, 7, 7, 7, 7, 7, 7, 7, 7, 7, 7, 7, 7, 7, 7, 7, 7, 7, 7, 7, 7, 7, 7, 7, 7, 7, 7, 7, 7, 7, 7, 7, 7, 7, 7, 7, 7, 7, 7, 7, 7, 7, 7, 7, 7, 7, 7, 7, 7, 7, 7, 7, 7, 7, 7, 8, 8, 8, 8, 8, 8, 8, 8, 8, 8, 8, 8, 8, 8, 8, 8, 8, 8, 8, 8, 8, 8, 8, 8, 8, 8, 8, 8, 8, 8, 8, 8, 8, 8, 8, 8, 8, 8, 8, 8, 8, 8, 8, 8, 8, 8, 8, 8, 8, 8, 8, 8, 8, 8, 8, 8, 8, 8, 8, 8, 8, 8, 8, 8, 8, 8, 8, 8, 8, 8, 8, 8, 8, 8, 8, 8, 8, 8, 8, 8, 8, 8, 8, 8, 8, 8, 8, 8, 8, 8, 8, 8, 8, 8, 8, 8, 8, 8, 8, 8, 8, 8, 8, 8, 8, 8, 8, 8, 8, 8, 8, 8, 8, 8, 8, 8, 8, 8, 8, 8, 8, 8, 8, 8, 8, 8, 8, 8][y]? = some b ∧ b.toNat = size y :=
 ⟨UInt8.ofNat (size y), tab8_get y h, by rw [UInt8.toNat_ofNat', Nat.mod_eq_of_lt (by have := size8 h; omega)]⟩
theorem size_shr {x k : Nat} (h : 2 ^ k ≤ x) : size x = size (x / 2 ^ k) + k := by
 have h0 : x / 2 ^ k ≠ 0 := by
  have : 1 ≤ x / 2 ^ k := (Nat.le_div_iff_mul_le (Nat.two_pow_pos k)).2 (by omega)
  omega
 have h1 := size_le h0
 have h2 := lt_size (x / 2 ^ k)
 have h3 := size_pos h0
 rw [show size (x / 2 ^ k) + k = (size (x / 2 ^ k) - 1 + k) + 1 by omega]
 refine size_eq ?_ ?_
 ·rw [Nat.pow_add]
  exact (Nat.le_div_iff_mul_le (Nat.two_pow_pos k)).1 h1
 ·rw [show size (x / 2 ^ k) - 1 + k + 1 = size (x / 2 ^ k) + k by omega, Nat.pow_add]
  exact (Nat.div_lt_iff_lt_mul (Nat.two_pow_pos k)).1 h2
theorem shr16 (x : Nat) : shiftI .shr .u64 x 16 = some (.int .u64 (x / 65536 : Nat)) := shr_word (x := x) (s := 16) (by omega)
theorem shr8 (x : Nat) : shiftI .shr .u64 x 8 = some (.int .u64 (x / 256 : Nat)) := shr_word (x := x) (s := 8) (by omega)
theorem shr32' (x : Nat) : shiftI .shr .u64 x 32 = some (.int .u64 (x / 4294967296 : Nat)) := shr_word (x := x) (s := 32) (by omega)
theorem wlit : IntKind.i64.wrap 8 = 8 ∧ IntKind.i64.wrap 16 = 16 ∧ IntKind.i64.wrap 24 = 24 ∧ IntKind.i64.wrap 32 = 32 ∧ IntKind.i64.wrap 40 = 40 ∧ IntKind.i64.wrap 48 = 48 ∧ IntKind.i64.wrap 56 = 56 := by decide
theorem len64_ok : FnOk Try.prog base 92 (pureS sLen64) := by
 refine pure_of_vc hmix Tab.none_ok globNone low92 fun args z hs hf => ?_
 unfold sLen64 at hs
 split at hs
 case h_2 => cases hs
 rename_i x
 split at hs
 case isFalse => cases hs
 rename_i hc
 cases hs
 obtain ⟨x, rfl⟩ := Int.eq_ofNat_of_zero_le hc.1
 simp only [Int.toNat_natCast] at hc ⊢
 obtain ⟨-, hx⟩ := hc
 rw [B_lit] at hx
 refine ⟨by simp [lf92], ?_⟩
 by_cases h0 : 4294967296 ≤ x
 ·obtain ⟨y0, hy0⟩ : ∃ y, y = x / 4294967296 := ⟨_, rfl⟩
  have e0 := shr32' x
  rw [← hy0] at e0
  have i0 : (4294967296 : Int) ≤ x := by omega
  have z0 : size x = size y0 + 32 := by rw [hy0]; exact size_shr (k := 32) h0
  by_cases h1 : 65536 ≤ y0
  ·obtain ⟨y1, hy1⟩ : ∃ y, y = y0 / 65536 := ⟨_, rfl⟩
   have e1 := shr16 y0
   rw [← hy1] at e1
   have i1 : (65536 : Int) ≤ y0 := by omega
   have z1 : size y0 = size y1 + 16 := by rw [hy1]; exact size_shr (k := 16) h1
   by_cases h2 : 256 ≤ y1
   ·obtain ⟨y2, hy2⟩ : ∃ y, y = y1 / 256 := ⟨_, rfl⟩
    have e2 := shr8 y1
    rw [← hy2] at e2
    have i2 : (256 : Int) ≤ y1 := by omega
    have z2 : size y1 = size y2 + 8 := by rw [hy2]; exact size_shr (k := 8) h2
    obtain ⟨b, hb, hbs⟩ := tab8_at (y := y2) (by omega)
    have hsz := size8 (y := y2) (by omega)
    have hu8 : IntKind.u8.wrap (y2 : Int) = y2 := IntWalk.u8_in _ (by omega)
    have hi8 : IntKind.i64.wrap (b.toNat : Int) = (b.toNat : Int) := IntWalk.i64_in _ (by omega)
    have hsum : IntKind.i64.wrap ((56 : Int) + b.toNat) = (size x : Int) := by rw [IntWalk.i64_in _ (by omega)]; omega
    simp [lf92, e0, i0, e1, i1, e2, i2, hsum, hu8, hb, hi8, wlit]
   ·have i2 : ¬ (256 : Int) ≤ y1 := by omega
    obtain ⟨b, hb, hbs⟩ := tab8_at (y := y1) (by omega)
    have hsz := size8 (y := y1) (by omega)
    have hu8 : IntKind.u8.wrap (y1 : Int) = y1 := IntWalk.u8_in _ (by omega)
    have hi8 : IntKind.i64.wrap (b.toNat : Int) = (b.toNat : Int) := IntWalk.i64_in _ (by omega)
    have hsum : IntKind.i64.wrap ((48 : Int) + b.toNat) = (size x : Int) := by rw [IntWalk.i64_in _ (by omega)]; omega
    simp [lf92, e0, i0, e1, i1, i2, hsum, hu8, hb, hi8, wlit]
  ·have i1 : ¬ (65536 : Int) ≤ y0 := by omega
   by_cases h2 : 256 ≤ y0
   ·obtain ⟨y2, hy2⟩ : ∃ y, y = y0 / 256 := ⟨_, rfl⟩
    have e2 := shr8 y0
    rw [← hy2] at e2
    have i2 : (256 : Int) ≤ y0 := by omega
    have z2 : size y0 = size y2 + 8 := by rw [hy2]; exact size_shr (k := 8) h2
    obtain ⟨b, hb, hbs⟩ := tab8_at (y := y2) (by omega)
    have hsz := size8 (y := y2) (by omega)
    have hu8 : IntKind.u8.wrap (y2 : Int) = y2 := IntWalk.u8_in _ (by omega)
    have hi8 : IntKind.i64.wrap (b.toNat : Int) = (b.toNat : Int) := IntWalk.i64_in _ (by omega)
    have hsum : IntKind.i64.wrap ((40 : Int) + b.toNat) = (size x : Int) := by rw [IntWalk.i64_in _ (by omega)]; omega
    simp [lf92, e0, i0, i1, e2, i2, hsum, hu8, hb, hi8, wlit]
   ·have i2 : ¬ (256 : Int) ≤ y0 := by omega
    obtain ⟨b, hb, hbs⟩ := tab8_at (y := y0) (by omega)
    have hsz := size8 (y := y0) (by omega)
    have hu8 : IntKind.u8.wrap (y0 : Int) = y0 := IntWalk.u8_in _ (by omega)
    have hi8 : IntKind.i64.wrap (b.toNat : Int) = (b.toNat : Int) := IntWalk.i64_in _ (by omega)
    have hsum : IntKind.i64.wrap ((32 : Int) + b.toNat) = (size x : Int) := by rw [IntWalk.i64_in _ (by omega)]; omega
    simp [lf92, e0, i0, i1, i2, hsum, hu8, hb, hi8, wlit]
 ·have i0 : ¬ (4294967296 : Int) ≤ x := by omega
  by_cases h1 : 65536 ≤ x
  ·obtain ⟨y1, hy1⟩ : ∃ y, y = x / 65536 := ⟨_, rfl⟩
   have e1 := shr16 x
   rw [← hy1] at e1
   have i1 : (65536 : Int) ≤ x := by omega
   have z1 : size x = size y1 + 16 := by rw [hy1]; exact size_shr (k := 16) h1
   by_cases h2 : 256 ≤ y1
   ·obtain ⟨y2, hy2⟩ : ∃ y, y = y1 / 256 := ⟨_, rfl⟩
    have e2 := shr8 y1
    rw [← hy2] at e2
    have i2 : (256 : Int) ≤ y1 := by omega
    have z2 : size y1 = size y2 + 8 := by rw [hy2]; exact size_shr (k := 8) h2
    obtain ⟨b, hb, hbs⟩ := tab8_at (y := y2) (by omega)
    have hsz := size8 (y := y2) (by omega)
    have hu8 : IntKind.u8.wrap (y2 : Int) = y2 := IntWalk.u8_in _ (by omega)
    have hi8 : IntKind.i64.wrap (b.toNat : Int) = (b.toNat : Int) := IntWalk.i64_in _ (by omega)
    have hsum : IntKind.i64.wrap ((24 : Int) + b.toNat) = (size x : Int) := by rw [IntWalk.i64_in _ (by omega)]; omega
    simp [lf92, i0, e1, i1, e2, i2, hsum, hu8, hb, hi8, wlit]
   ·have i2 : ¬ (256 : Int) ≤ y1 := by omega
    obtain ⟨b, hb, hbs⟩ := tab8_at (y := y1) (by omega)
    have hsz := size8 (y := y1) (by omega)
    have hu8 : IntKind.u8.wrap (y1 : Int) = y1 := IntWalk.u8_in _ (by omega)
    have hi8 : IntKind.i64.wrap (b.toNat : Int) = (b.toNat : Int) := IntWalk.i64_in _ (by omega)
    have hsum : IntKind.i64.wrap ((16 : Int) + b.toNat) = (size x : Int) := by rw [IntWalk.i64_in _ (by omega)]; omega
    simp [lf92, i0, e1, i1, i2, hsum, hu8, hb, hi8, wlit]
  ·have i1 : ¬ (65536 : Int) ≤ x := by omega
   by_cases h2 : 256 ≤ x
   ·obtain ⟨y2, hy2⟩ : ∃ y, y = x / 256 := ⟨_, rfl⟩
    have e2 := shr8 x
    rw [← hy2] at e2
    have i2 : (256 : Int) ≤ x := by omega
    have z2 : size x = size y2 + 8 := by rw [hy2]; exact size_shr (k := 8) h2
    obtain ⟨b, hb, hbs⟩ := tab8_at (y := y2) (by omega)
    have hsz := size8 (y := y2) (by omega)
    have hu8 : IntKind.u8.wrap (y2 : Int) = y2 := IntWalk.u8_in _ (by omega)
    have hi8 : IntKind.i64.wrap (b.toNat : Int) = (b.toNat : Int) := IntWalk.i64_in _ (by omega)
    have hsum : IntKind.i64.wrap ((8 : Int) + b.toNat) = (size x : Int) := by rw [IntWalk.i64_in _ (by omega)]; omega
    simp [lf92, i0, i1, e2, i2, hsum, hu8, hb, hi8, wlit]
   ·have i2 : ¬ (256 : Int) ≤ x := by omega
    obtain ⟨b, hb, hbs⟩ := tab8_at (y := x) (by omega)
    have hsz := size8 (y := x) (by omega)
    have hu8 : IntKind.u8.wrap (x : Int) = x := IntWalk.u8_in _ (by omega)
    have hi8 : IntKind.i64.wrap (b.toNat : Int) = (b.toNat : Int) := IntWalk.i64_in _ (by omega)
    have hi9 := hi8
    rw [hbs] at hi9
    simp [lf92, i0, i1, i2, hbs, hu8, hb, hi9]
def sLead : List PVal → Option PVal
 | [.int .u64 x] => if 0 ≤ x ∧ x.toNat < B then some (.int .i64 ((64 - size x.toNat : Nat) : Int)) else none
 | _ => none
theorem sLead_nat {x : Nat} (hx : x < B) : sLead [.int .u64 x] = some (.int .i64 ((64 - size x : Nat) : Int)) := by
 show (if (0 : Int) ≤ x ∧ (x : Int).toNat < B then _ else none) = _
 rw [if_pos ⟨by omega, by simpa using hx⟩]
 simp
theorem size64 {x : Nat} (hx : x < B) : size x ≤ 64 := size_le_iff.2 (by rw [pow64]; exact hx)
def Tlen : Tab := Tab.none.with 92 (pureS sLen64)
theorem Tlen_ok : TabOk Try.prog base Tlen := Tab.with_ok Tab.none_ok len64_ok
theorem Tlen_mu (f : FuncId) (a : List AVal) (H : Heap) : Tlen.mu f a H = none := (rfl)
theorem Tlen_len : Tlen.fn 92 = pureS sLen64 := (rfl)
theorem lead_ok : FnOk Try.prog base 85 (pureS sLead) := by
 refine pure_of_vc hmix Tlen_ok globNone low85 fun args z hs hf => ?_
 unfold sLead at hs
 split at hs
 case h_2 => cases hs
 rename_i x
 split at hs
 case isFalse => cases hs
 rename_i hc
 cases hs
 obtain ⟨x, rfl⟩ := Int.eq_ofNat_of_zero_le hc.1
 simp only [Int.toNat_natCast] at hc ⊢
 obtain ⟨-, hx⟩ := hc
 refine ⟨by simp [lf85], ?_⟩
 have h1 := sLen64_nat hx
 have h2 := size64 hx
 have h3 : IntKind.i64.wrap (64 - (size x : Int)) = ((64 - size x : Nat) : Int) := by rw [IntWalk.i64_in _ (by omega)]; omega
 simp [lf85, h1, h3, Tlen_mu, Tlen_len]
end Go.Proofs.Ytbdccebpehogjaa

/-
 math/bits: Div64.
-/
namespace Go.Proofs.Ytbdccebpehogjaa
open Go Go.Abs Go.Limbs
variable {base : Prot}
set_option maxRecDepth 20000
attribute [local irreducible] vc
attribute [local simp] pureS touchV freezeL fuel shiftV u64 au
theorem half_prod {q y : Nat} (hq : q < 4294967296) (hy : y < 4294967296) : q * y < B := by
 have h := Lib.half_mul_le (a := q) (b := y) (by omega) (by omega)
 generalize q * y = p at *
 rw [B_lit]
 omega
theorem digit_split (q a b rh : Nat) : q * (a * 4294967296 + b) = q * a * 4294967296 + q * b ∧ (q * a + rh) * 4294967296 = q * a * 4294967296 + rh * 4294967296 := by
 constructor
 ·rw [Nat.mul_add q, Nat.mul_assoc]
 ·exact Nat.add_mul _ _ _
theorem digit_over {q a b rh d un Q : Nat} (hT : un = q * a + rh) (hQ : Q = (un * 4294967296 + d) / (a * 4294967296 + b)) (hy : 0 < a * 4294967296 + b) (h : rh * 4294967296 + d < q * b) : Q < q := by
 subst hQ hT
 obtain ⟨e1, e2⟩ := digit_split q a b rh
 refine (Nat.div_lt_iff_lt_mul hy).2 ?_
 rw [e1, e2, Nat.add_assoc]
 exact Nat.add_lt_add_left h _
theorem digit_done {q a b rh d un Q : Nat} (hT : un = q * a + rh) (hQ : Q = (un * 4294967296 + d) / (a * 4294967296 + b)) (hy : 0 < a * 4294967296 + b) (h : q * b ≤ rh * 4294967296 + d) : q ≤ Q := by
 subst hQ hT
 obtain ⟨e1, e2⟩ := digit_split q a b rh
 refine (Nat.le_div_iff_mul_le hy).2 ?_
 rw [e1, e2]
 omega
theorem digit_small {a b d un Q : Nat} (hQ : Q = (un * 4294967296 + d) / (a * 4294967296 + b)) (hu : un < a * 4294967296 + b) (hd : d < 4294967296) : Q < 4294967296 := by
 rw [hQ, Nat.div_lt_iff_lt_mul (by omega)]
 omega
theorem digit_first {a b d un Q : Nat} (hQ : Q = (un * 4294967296 + d) / (a * 4294967296 + b)) (ha : 0 < a) (hd : d < 4294967296) : Q ≤ un / a := by
 rw [hQ, Nat.le_div_iff_mul_le ha]
 have h1 := Nat.div_mul_le_self (un * 4294967296 + d) (a * 4294967296 + b)
 generalize (un * 4294967296 + d) / (a * 4294967296 + b) = m at *
 rw [Nat.mul_add, ← Nat.mul_assoc] at h1
 omega
theorem first_le {a b un : Nat} (hu : un < a * 4294967296 + b) (ha : 2147483648 ≤ a) (hb : b < 4294967296) : un / a ≤ 4294967297 := by
 have : un / a < 4294967298 := by rw [Nat.div_lt_iff_lt_mul (by omega)]; omega
 omega
theorem wrap_rest {a d q y r : Nat} (h : a * 4294967296 + d = q * y + r) (hr : r < B) (hd : d < B) :
  IntKind.u64.wrap (IntKind.u64.wrap (IntKind.u64.wrap ((a : Int) * 4294967296) + d) - IntKind.u64.wrap ((q : Int) * y)) = (r : Int) := by
 rw [B_lit] at hr hd
 have e : (q : Int) * y = ((q * y : Nat) : Int) := by simp
 rw [e]
 generalize q * y = p at *
 rw [IntKind.wrap_u64, IntKind.wrap_u64, IntKind.wrap_u64, IntKind.wrap_u64]
 omega
theorem wrap_rest0 {a q y r : Nat} (h : a = q * y + r) (hr : r < B) : IntKind.u64.wrap ((a : Int) - IntKind.u64.wrap ((q : Int) * y)) = (r : Int) := by
 rw [B_lit] at hr
 have e : (q : Int) * y = ((q * y : Nat) : Int) := by simp
 rw [e]
 generalize q * y = p at *
 rw [IntKind.wrap_u64, IntKind.wrap_u64]
 omega
def divQ (h l y : Nat) : Nat := (h * B + l) / y
def divR (h l y : Nat) : Nat := (h * B + l) % y
def sDiv64 : List PVal → Option PVal
 | [.int .u64 h, .int .u64 l, .int .u64 y] => if 0 ≤ h ∧ h < y ∧ 0 ≤ l ∧ l.toNat < B ∧ y.toNat < B then some (.tup [.int .u64 (divQ h.toNat l.toNat y.toNat), .int .u64 (divR h.toNat l.toNat y.toNat)]) else none
 | _ => none
theorem sDiv64_nat {h l y : Nat} (hh : h < y) (hl : l < B) (hy : y < B) : sDiv64 [.int .u64 h, .int .u64 l, .int .u64 y] = some (.tup [.int .u64 (divQ h l y), .int .u64 (divR h l y)]) := by
 show (if (0 : Int) ≤ h ∧ (h : Int) < y ∧ (0 : Int) ≤ l ∧ (l : Int).toNat < B ∧ (y : Int).toNat < B then _ else none) = _
 rw [if_pos ⟨by omega, by omega, by omega, by simpa using hl, by simpa using hy⟩]
 simp
def Tdiv : Tab := Tab.none.with 85 (pureS sLead)
theorem Tdiv_ok : TabOk Try.prog base Tdiv := Tab.with_ok Tab.none_ok lead_ok
theorem Tdiv_mu (f : FuncId) (a : List AVal) (H : Heap) : Tdiv.mu f a H = none := (rfl)
theorem Tdiv_lead : Tdiv.fn 85 = pureS sLead := (rfl)
theorem div_loop0 {a b d un q0 r0 Q : Nat} {g2 g8 g11 g14 : AVal} {R : LExit → AFr → Heap → Prop} {fr : AFr} (hT : un = q0 * a + r0) (hQ : Q = (un * 4294967296 + d) / (a * 4294967296 + b)) (hu : un < a * 4294967296 + b) (ha : 2147483648 ≤ a) (ha2 : a < 4294967296) (hb : b < 4294967296) (hd : d < 4294967296)
  (hq0 : Q ≤ q0) (hq1 : q0 ≤ 4294967297) (hr0 : r0 < 4294967296) (h9 : fr 9 = .p (.int .u64 a)) (h10 : fr 10 = .p (.int .u64 b)) (hD : fr 13 = .p (.int .u64 d)) (hq : fr 15 = .p (.int .u64 q0)) (h16 : fr 16 = .p (.int .u64 r0)) (k2 : fr 2 = g2) (k8 : fr 8 = g8) (k11 : fr 11 = g11) (k14 : fr 14 = g14)
  (hR : ∀ fr' : AFr, fr' 9 = .p (.int .u64 a) → fr' 10 = .p (.int .u64 b) → fr' 13 = .p (.int .u64 d) → fr' 15 = .p (.int .u64 Q) → fr' 2 = g2 → fr' 8 = g8 → fr' 11 = g11 → fr' 14 = g14 → R .normal fr' []) : vc Tdiv lf98_B0 R fr [] := by
 simp only [lf98_B0, vc_block]
 have hy : 0 < a * 4294967296 + b := by omega
 have hQs := digit_small hQ hu hd
 refine loop_ind (fun fr H => ∃ q r : Nat, un = q * a + r ∧ Q ≤ q ∧ q ≤ 4294967297 ∧ r < 4294967296 ∧ H = [] ∧ fr 9 = .p (.int .u64 a) ∧ fr 10 = .p (.int .u64 b) ∧ fr 13 = .p (.int .u64 d) ∧ fr 15 = .p (.int .u64 q) ∧ fr 16 = .p (.int .u64 r) ∧ fr 2 = g2 ∧ fr 8 = g8 ∧ fr 11 = g11 ∧ fr 14 = g14)
  (fun fr _ => ivar (fr 15)) ⟨q0, r0, hT, hq0, hq1, hr0, rfl, h9, h10, hD, hq, h16, k2, k8, k11, k14⟩ ?_
 rintro fr H ⟨q, r, hT, hq0, hq1, hr0, rfl, h9, h10, hD, hq, h16, k2, k8, k11, k14⟩
 obtain ⟨r', hr'⟩ : ∃ x, x = r + a := ⟨_, rfl⟩
 have hw2 : IntKind.u64.wrap ((r : Int) + a) = (r' : Int) := by rw [wrap_u_add (by rw [B_lit]; omega), hr']
 have hTs : ∀ q', q = q' + 1 → un = q' * a + r' := fun q' e => by rw [hT, e, Nat.add_mul, hr']; omega
 have brk : ∀ q', q = q' + 1 → 4294967296 ≤ r' → q' = Q → True := fun _ _ _ _ => trivial
 by_cases hbig : 4294967296 ≤ q
 ·obtain ⟨q', hq'⟩ : ∃ x, q = x + 1 := ⟨q - 1, by omega⟩
  have hw1 : IntKind.u64.wrap ((q : Int) - 1) = (q' : Int) := by rw [IntWalk.u64_in _ (by omega)]; omega
  have hbI : (4294967296 : Int) ≤ q := by omega
  have hT' := hTs q' hq'
  by_cases hrb : 4294967296 ≤ r'
  ·have hrI : (4294967296 : Int) ≤ r' := by omega
   have hle : q' ≤ Q := digit_done hT' hQ hy (by
    have h1 : q' * b ≤ 4294967296 * b := Nat.mul_le_mul_right _ (by omega)
    omega)
   have hqQ : q' = Q := by omega
   subst hqQ
   simp [h9, h10, hD, hq, h16, k2, k8, k11, k14, hbI, hw1, hw2, hrI]
   exact hR _ (by simp [h9]) (by simp [h10]) (by simp [hD]) (by simp) (by simp [k2]) (by simp [k8]) (by simp [k11]) (by simp [k14])
  ·have hrI : ¬ (4294967296 : Int) ≤ r' := by omega
   simp [h9, h10, hD, hq, h16, k2, k8, k11, k14, hbI, hw1, hw2, hrI, ivar]
   exact ⟨⟨q', r', hT', by omega, by omega, by omega, rfl, rfl⟩, by omega⟩
 ·have hbI : ¬ (4294967296 : Int) ≤ q := by omega
  obtain ⟨p, hp⟩ : ∃ x, x = q * b := ⟨_, rfl⟩
  have hpB : p < B := by rw [hp]; exact half_prod (by omega) hb
  have hw3 : IntKind.u64.wrap ((q : Int) * b) = (p : Int) := by rw [wrap_u_mul, ← hp, Nat.mod_eq_of_lt hpB]
  obtain ⟨t, ht⟩ : ∃ x, x = 4294967296 * r := ⟨_, rfl⟩
  have hw4 : IntKind.u64.wrap (4294967296 * (r : Int)) = (t : Int) := by rw [IntWalk.u64_in _ (by omega)]; omega
  obtain ⟨t2, ht2⟩ : ∃ x, x = t + d := ⟨_, rfl⟩
  have hw5 : IntKind.u64.wrap ((t : Int) + d) = (t2 : Int) := by rw [IntWalk.u64_in _ (by omega)]; omega
  by_cases hc : t2 < p
  ·have hQq : Q < q := digit_over hT hQ hy (by omega)
   obtain ⟨q', hq'⟩ : ∃ x, q = x + 1 := ⟨q - 1, by omega⟩
   have hw1 : IntKind.u64.wrap ((q : Int) - 1) = (q' : Int) := by rw [IntWalk.u64_in _ (by omega)]; omega
   have hT' := hTs q' hq'
   by_cases hrb : 4294967296 ≤ r'
   ·have hrI : (4294967296 : Int) ≤ r' := by omega
    have hle : q' ≤ Q := digit_done hT' hQ hy (by
     have h1 : q' * b ≤ 4294967296 * b := Nat.mul_le_mul_right _ (by omega)
     omega)
    have hqQ : q' = Q := by omega
    subst hqQ
    simp [h9, h10, hD, hq, h16, k2, k8, k11, k14, hbI, hw1, hw2, hw3, hw4, hw5, hc, hrI]
    exact hR _ (by simp [h9]) (by simp [h10]) (by simp [hD]) (by simp) (by simp [k2]) (by simp [k8]) (by simp [k11]) (by simp [k14])
   ·have hrI : ¬ (4294967296 : Int) ≤ r' := by omega
    simp [h9, h10, hD, hq, h16, k2, k8, k11, k14, hbI, hw1, hw2, hw3, hw4, hw5, hc, hrI, ivar]
    exact ⟨⟨q', r', hT', by omega, by omega, by omega, rfl, rfl⟩, by omega⟩
  ·have hle : q ≤ Q := digit_done hT hQ hy (by omega)
   have hqQ : q = Q := by omega
   subst hqQ
   simp [h9, h10, hD, hq, h16, k2, k8, k11, k14, hbI, hw3, hw4, hw5, hc]
   exact hR _ (by simp [h9]) (by simp [h10]) (by simp [hD]) (by simp [hq]) (by simp [k2]) (by simp [k8]) (by simp [k11]) (by simp [k14])
theorem div_loop1 {a b d un q0 r0 Q : Nat} {g2 g8 g15 g17 : AVal} {R : LExit → AFr → Heap → Prop} {fr : AFr} (hT : un = q0 * a + r0) (hQ : Q = (un * 4294967296 + d) / (a * 4294967296 + b)) (hu : un < a * 4294967296 + b) (ha : 2147483648 ≤ a) (ha2 : a < 4294967296) (hb : b < 4294967296) (hd : d < 4294967296)
  (hq0 : Q ≤ q0) (hq1 : q0 ≤ 4294967297) (hr0 : r0 < 4294967296) (h9 : fr 9 = .p (.int .u64 a)) (h10 : fr 10 = .p (.int .u64 b)) (hD : fr 14 = .p (.int .u64 d)) (hq : fr 18 = .p (.int .u64 q0)) (h16 : fr 16 = .p (.int .u64 r0)) (k2 : fr 2 = g2) (k8 : fr 8 = g8) (k15 : fr 15 = g15) (k17 : fr 17 = g17)
  (hR : ∀ fr' : AFr, fr' 9 = .p (.int .u64 a) → fr' 10 = .p (.int .u64 b) → fr' 14 = .p (.int .u64 d) → fr' 18 = .p (.int .u64 Q) → fr' 2 = g2 → fr' 8 = g8 → fr' 15 = g15 → fr' 17 = g17 → R .normal fr' []) : vc Tdiv lf98_B1 R fr [] := by
 simp only [lf98_B1, vc_block]
 have hy : 0 < a * 4294967296 + b := by omega
 have hQs := digit_small hQ hu hd
 refine loop_ind (fun fr H => ∃ q r : Nat, un = q * a + r ∧ Q ≤ q ∧ q ≤ 4294967297 ∧ r < 4294967296 ∧ H = [] ∧ fr 9 = .p (.int .u64 a) ∧ fr 10 = .p (.int .u64 b) ∧ fr 14 = .p (.int .u64 d) ∧ fr 18 = .p (.int .u64 q) ∧ fr 16 = .p (.int .u64 r) ∧ fr 2 = g2 ∧ fr 8 = g8 ∧ fr 15 = g15 ∧ fr 17 = g17)
  (fun fr _ => ivar (fr 18)) ⟨q0, r0, hT, hq0, hq1, hr0, rfl, h9, h10, hD, hq, h16, k2, k8, k15, k17⟩ ?_
 rintro fr H ⟨q, r, hT, hq0, hq1, hr0, rfl, h9, h10, hD, hq, h16, k2, k8, k15, k17⟩
 obtain ⟨r', hr'⟩ : ∃ x, x = r + a := ⟨_, rfl⟩
 have hw2 : IntKind.u64.wrap ((r : Int) + a) = (r' : Int) := by rw [wrap_u_add (by rw [B_lit]; omega), hr']
 have hTs : ∀ q', q = q' + 1 → un = q' * a + r' := fun q' e => by rw [hT, e, Nat.add_mul, hr']; omega
 have brk : ∀ q', q = q' + 1 → 4294967296 ≤ r' → q' = Q → True := fun _ _ _ _ => trivial
 by_cases hbig : 4294967296 ≤ q
 ·obtain ⟨q', hq'⟩ : ∃ x, q = x + 1 := ⟨q - 1, by omega⟩
  have hw1 : IntKind.u64.wrap ((q : Int) - 1) = (q' : Int) := by rw [IntWalk.u64_in _ (by omega)]; omega
  have hbI : (4294967296 : Int) ≤ q := by omega
  have hT' := hTs q' hq'
  by_cases hrb : 4294967296 ≤ r'
  ·have hrI : (4294967296 : Int) ≤ r' := by omega
   have hle : q' ≤ Q := digit_done hT' hQ hy (by
    have h1 : q' * b ≤ 4294967296 * b := Nat.mul_le_mul_right _ (by omega)
    omega)
   have hqQ : q' = Q := by omega
   subst hqQ
   simp [h9, h10, hD, hq, h16, k2, k8, k15, k17, hbI, hw1, hw2, hrI]
   exact hR _ (by simp [h9]) (by simp [h10]) (by simp [hD]) (by simp) (by simp [k2]) (by simp [k8]) (by simp [k15]) (by simp [k17])
  ·have hrI : ¬ (4294967296 : Int) ≤ r' := by omega
   simp [h9, h10, hD, hq, h16, k2, k8, k15, k17, hbI, hw1, hw2, hrI, ivar]
   exact ⟨⟨q', r', hT', by omega, by omega, by omega, rfl, rfl⟩, by omega⟩
 ·have hbI : ¬ (4294967296 : Int) ≤ q := by omega
  obtain ⟨p, hp⟩ : ∃ x, x = q * b := ⟨_, rfl⟩
  have hpB : p < B := by rw [hp]; exact half_prod (by omega) hb
  have hw3 : IntKind.u64.wrap ((q : Int) * b) = (p : Int) := by rw [wrap_u_mul, ← hp, Nat.mod_eq_of_lt hpB]
  obtain ⟨t, ht⟩ : ∃ x, x = 4294967296 * r := ⟨_, rfl⟩
  have hw4 : IntKind.u64.wrap (4294967296 * (r : Int)) = (t : Int) := by rw [IntWalk.u64_in _ (by omega)]; omega
  obtain ⟨t2, ht2⟩ : ∃ x, x = t + d := ⟨_, rfl⟩
  have hw5 : IntKind.u64.wrap ((t : Int) + d) = (t2 : Int) := by rw [IntWalk.u64_in _ (by omega)]; omega
  by_cases hc : t2 < p
  ·have hQq : Q < q := digit_over hT hQ hy (by omega)
   obtain ⟨q', hq'⟩ : ∃ x, q = x + 1 := ⟨q - 1, by omega⟩
   have hw1 : IntKind.u64.wrap ((q : Int) - 1) = (q' : Int) := by rw [IntWalk.u64_in _ (by omega)]; omega
   have hT' := hTs q' hq'
   by_cases hrb : 4294967296 ≤ r'
   ·have hrI : (4294967296 : Int) ≤ r' := by omega
    have hle : q' ≤ Q := digit_done hT' hQ hy (by
     have h1 : q' * b ≤ 4294967296 * b := Nat.mul_le_mul_right _ (by omega)
     omega)
    have hqQ : q' = Q := by omega
    subst hqQ
    simp [h9, h10, hD, hq, h16, k2, k8, k15, k17, hbI, hw1, hw2, hw3, hw4, hw5, hc, hrI]
    exact hR _ (by simp [h9]) (by simp [h10]) (by simp [hD]) (by simp) (by simp [k2]) (by simp [k8]) (by simp [k15]) (by simp [k17])
   ·have hrI : ¬ (4294967296 : Int) ≤ r' := by omega
    simp [h9, h10, hD, hq, h16, k2, k8, k15, k17, hbI, hw1, hw2, hw3, hw4, hw5, hc, hrI, ivar]
    exact ⟨⟨q', r', hT', by omega, by omega, by omega, rfl, rfl⟩, by omega⟩
  ·have hle : q ≤ Q := digit_done hT hQ hy (by omega)
   have hqQ : q = Q := by omega
   subst hqQ
   simp [h9, h10, hD, hq, h16, k2, k8, k15, k17, hbI, hw3, hw4, hw5, hc]
   exact hR _ (by simp [h9]) (by simp [h10]) (by simp [hD]) (by simp [hq]) (by simp [k2]) (by simp [k8]) (by simp [k15]) (by simp [k17])
theorem div64_ok : FnOk Try.prog base 98 (pureS sDiv64) := by
 refine pure_of_vc hmix Tdiv_ok globNone low98 fun args z hs hf => ?_
 unfold sDiv64 at hs
 split at hs
 case h_2 => cases hs
 rename_i h l y
 split at hs
 case isFalse => cases hs
 rename_i hc
 cases hs
 obtain ⟨h, rfl⟩ := Int.eq_ofNat_of_zero_le hc.1
 obtain ⟨l, rfl⟩ := Int.eq_ofNat_of_zero_le hc.2.2.1
 obtain ⟨y, rfl⟩ := Int.eq_ofNat_of_zero_le (a := y) (by omega)
 simp only [Int.toNat_natCast] at hc ⊢
 obtain ⟨-, hhy, -, hl, hy⟩ := hc
 have hhy : h < y := by omega
 refine ⟨by simp [lf98], ?_⟩
 have hy0 : ((y : Int) == 0) = false := beq_false_of_ne (by omega)
 have hyh : ¬ y ≤ h := by omega
 by_cases hh : h = 0
 ·subst hh
  have hq : IntKind.u64.wrap ((l : Int) / y) = (divQ 0 l y : Int) := by
   have : (l : Int) / y = ((l / y : Nat) : Int) := by simp
   rw [this, wrap_u (Nat.lt_of_le_of_lt (Nat.div_le_self _ _) hl)]
   simp [divQ]
  have hr : (l : Int).tmod y = (divR 0 l y : Int) := by rw [Int.tmod_eq_emod_of_nonneg (by omega)]; simp [divR]
  have hyn : ¬ (y : Int) = 0 := by omega
  have hyn' : ¬ y = 0 := by omega
  have hyI : ¬ (y : Int) ≤ 0 := by omega
  simp [lf98, hy0, hyh, hyI, hyn, hyn', hq, hr]
 ·have hh0 : ((h : Int) == 0) = false := beq_false_of_ne (by omega)
  have hyne : y ≠ 0 := by omega
  obtain ⟨s, hs⟩ : ∃ s, s = 64 - size y := ⟨_, rfl⟩
  have hsz := size64 hy
  have hsp := size_pos hyne
  have hs63 : s ≤ 63 := by omega
  have hlead := sLead_nat hy
  rw [← hs] at hlead
  have hws : IntKind.u64.wrap (s : Int) = s := wrap_u (by rw [B_lit]; omega)
  -- the divisor
  obtain ⟨y', hy'⟩ : ∃ w, w = y * 2 ^ s := ⟨_, rfl⟩
  have hy'B : y' < B := by
   rw [hy', ← pow64, show 64 = size y + s by omega, Nat.pow_add]
   exact Nat.mul_lt_mul_of_pos_right (lt_size y) (Nat.two_pow_pos s)
  have hy'H : B / 2 ≤ y' := by
   have h1 := Nat.mul_le_mul_right (2 ^ s) (size_le hyne)
   rw [← Nat.pow_add, show size y - 1 + s = 63 by omega, ← hy'] at h1
   rw [B_lit]
   omega
  have e1 : shiftI .shl .u64 y s = some (.int .u64 y') := by rw [shl_word (by omega), ← hy', Nat.mod_eq_of_lt hy'B]
  obtain ⟨a, ha⟩ : ∃ w, w = hi32 y' := ⟨_, rfl⟩
  obtain ⟨b, hb⟩ : ∃ w, w = lo32 y' := ⟨_, rfl⟩
  have e2 := shr32 y'
  have e3 := low_mask hy'B
  rw [← ha] at e2
  rw [← hb] at e3
  have hab : y' = a * 4294967296 + b := by rw [ha, hb]; unfold hi32 lo32; omega
  have hbG : b < 4294967296 := by rw [hb]; unfold lo32; omega
  have haG : a < 4294967296 := by rw [ha]; unfold hi32; rw [B_lit] at hy'B; omega
  have haH : 2147483648 ≤ a := by rw [B_lit] at hy'H; omega
  -- the dividend
  obtain ⟨u, hu⟩ : ∃ w, w = h * 2 ^ s + l / 2 ^ (64 - s) := ⟨_, rfl⟩
  have hlo : l / 2 ^ (64 - s) < 2 ^ s := by
   rw [Nat.div_lt_iff_lt_mul (Nat.two_pow_pos _), two_split (by omega)]; exact hl
  have huy : u < y' := by
   have : (h + 1) * 2 ^ s ≤ y * 2 ^ s := Nat.mul_le_mul_right _ hhy
   rw [Nat.add_mul, Nat.one_mul] at this
   omega
  have hhs : h * 2 ^ s < B := Nat.lt_of_le_of_lt (by rw [hu]; exact Nat.le_add_right _ _) (Nat.lt_trans huy hy'B)
  have e4 : shiftI .shl .u64 h s = some (.int .u64 (h * 2 ^ s : Nat)) := by rw [shl_word (by omega), Nat.mod_eq_of_lt hhs]
  have hws2 : IntKind.u64.wrap (64 - (s : Int)) = ((64 - s : Nat) : Int) := by rw [IntWalk.u64_in _ (by omega)]; omega
  have e5 : shiftI .shr .u64 l ((64 - s : Nat) : Int) = some (.int .u64 (l / 2 ^ (64 - s) : Nat)) := shr_word (by omega)
  have e6 := or_bits hhs (show l / 2 ^ (64 - s) < B from Nat.lt_of_le_of_lt (Nat.div_le_self _ _) hl)
  rw [Nat.or_comm, or_low hlo, Nat.add_comm, ← hu] at e6
  obtain ⟨hs1, hhs1⟩ : ∃ w, w = h * 2 ^ s := ⟨_, rfl⟩
  obtain ⟨ls1, hls1⟩ : ∃ w, w = l / 2 ^ (64 - s) := ⟨_, rfl⟩
  rw [← hhs1] at e4 e6
  rw [← hls1] at e5 e6
  obtain ⟨v, hv⟩ : ∃ w, w = l * 2 ^ s % B := ⟨_, rfl⟩
  have hvB : v < B := by rw [hv]; exact Nat.mod_lt _ B_pos
  have e7 : shiftI .shl .u64 l s = some (.int .u64 v) := by rw [shl_word (by omega), hv]
  obtain ⟨d1, hd1⟩ : ∃ w, w = hi32 v := ⟨_, rfl⟩
  obtain ⟨d0, hd0⟩ : ∃ w, w = lo32 v := ⟨_, rfl⟩
  have e8 := shr32 v
  have e9 := low_mask hvB
  rw [← hd1] at e8
  rw [← hd0] at e9
  have hvd : v = d1 * 4294967296 + d0 := by rw [hd1, hd0]; unfold hi32 lo32; omega
  have hd1G : d1 < 4294967296 := by rw [hd1]; unfold hi32; rw [B_lit] at hvB; omega
  have hd0G : d0 < 4294967296 := by rw [hd0]; unfold lo32; omega
  have hN : (h * B + l) * 2 ^ s = (u * 4294967296 + d1) * 4294967296 + d0 := by
   have h1 := Nat.mod_add_div (l * 2 ^ s) B
   rw [← hv, shl_high (by omega)] at h1
   have h2 : (h * B + l) * 2 ^ s = h * 2 ^ s * B + l * 2 ^ s := by rw [Nat.add_mul, Nat.mul_right_comm]
   rw [h2, hu, ← h1, hvd]
   generalize h * 2 ^ s = p at *
   generalize l / 2 ^ (64 - s) = q at *
   rw [B_lit]
   omega
  -- the digits
  obtain ⟨Q1, hQ1⟩ : ∃ w, w = (u * 4294967296 + d1) / (a * 4294967296 + b) := ⟨_, rfl⟩
  obtain ⟨R1, hR1⟩ : ∃ w, w = (u * 4294967296 + d1) % (a * 4294967296 + b) := ⟨_, rfl⟩
  have hdm1 := Nat.div_add_mod (u * 4294967296 + d1) (a * 4294967296 + b)
  rw [← hQ1, ← hR1, Nat.mul_comm _ Q1, ← hab] at hdm1
  have hR1y : R1 < y' := by rw [hR1, ← hab]; exact Nat.mod_lt _ (by omega)
  obtain ⟨Q0, hQ0⟩ : ∃ w, w = (R1 * 4294967296 + d0) / (a * 4294967296 + b) := ⟨_, rfl⟩
  obtain ⟨R0, hR0⟩ : ∃ w, w = (R1 * 4294967296 + d0) % (a * 4294967296 + b) := ⟨_, rfl⟩
  have hdm0 := Nat.div_add_mod (R1 * 4294967296 + d0) (a * 4294967296 + b)
  rw [← hQ0, ← hR0, Nat.mul_comm _ Q0, ← hab] at hdm0
  have hR0y : R0 < y' := by rw [hR0, ← hab]; exact Nat.mod_lt _ (by omega)
  have hQ1G := digit_small hQ1 (by omega) hd1G
  have hQ0G := digit_small hQ0 (by omega) hd0G
  have hdiv : h * B + l = (Q1 * 4294967296 + Q0) * y + R0 / 2 ^ s ∧ R0 / 2 ^ s < y := by
   have h1 : (h * B + l) * 2 ^ s = ((Q1 * 4294967296 + Q0) * y) * 2 ^ s + R0 := by
    rw [hN, ← hdm1, Nat.mul_assoc, ← hy', Nat.add_mul (Q1 * 4294967296), Nat.mul_right_comm Q1, Nat.add_mul]
    omega
   have h2 := congrArg (fun t => t / 2 ^ s) h1
   rw [Nat.mul_div_cancel _ (Nat.two_pow_pos s), Nat.add_comm _ R0, Nat.add_mul_div_right _ _ (Nat.two_pow_pos s)] at h2
   refine ⟨by omega, ?_⟩
   rw [Nat.div_lt_iff_lt_mul (Nat.two_pow_pos s), ← hy']
   exact hR0y
  obtain ⟨hq, hr⟩ := div_done (a := h * B + l) (q := Q1 * 4294967296 + Q0) (k := y) (by rw [Nat.mul_comm y]; exact hdiv.1) hdiv.2
  have hqd : divQ h l y = Q1 * 4294967296 + Q0 := hq.symm
  have hrd : divR h l y = R0 / 2 ^ s := hr.symm
  -- the walk
  have ha0 : ¬ (a : Int) = 0 := by omega
  have ha0' : ¬ a = 0 := by omega
  obtain ⟨q0, hq0⟩ : ∃ w, w = u / a := ⟨_, rfl⟩
  obtain ⟨r0, hr0⟩ : ∃ w, w = u % a := ⟨_, rfl⟩
  have hua := Nat.div_add_mod u a
  rw [← hq0, ← hr0, Nat.mul_comm] at hua
  have hr0a : r0 < a := by rw [hr0]; exact Nat.mod_lt _ (by omega)
  have w1 : IntKind.u64.wrap ((u : Int) / a) = (q0 : Int) := by
   have : (u : Int) / a = ((u / a : Nat) : Int) := by simp
   rw [this, ← hq0, wrap_u (Nat.lt_of_le_of_lt (by rw [hq0]; exact Nat.div_le_self _ _) (by omega : u < B))]
  have w2 : IntKind.u64.wrap ((u : Int) - IntKind.u64.wrap ((q0 : Int) * a)) = (r0 : Int) := wrap_rest0 hua.symm (by rw [B_lit]; omega)
  obtain ⟨q2, hq2⟩ : ∃ w, w = R1 / a := ⟨_, rfl⟩
  obtain ⟨r2, hr2⟩ : ∃ w, w = R1 % a := ⟨_, rfl⟩
  have hua2 := Nat.div_add_mod R1 a
  rw [← hq2, ← hr2, Nat.mul_comm] at hua2
  have hr2a : r2 < a := by rw [hr2]; exact Nat.mod_lt _ (by omega)
  have w3 : IntKind.u64.wrap ((R1 : Int) / a) = (q2 : Int) := by
   have : (R1 : Int) / a = ((R1 / a : Nat) : Int) := by simp
   rw [this, ← hq2, wrap_u (Nat.lt_of_le_of_lt (by rw [hq2]; exact Nat.div_le_self _ _) (by omega : R1 < B))]
  have w4 : IntKind.u64.wrap ((R1 : Int) - IntKind.u64.wrap ((q2 : Int) * a)) = (r2 : Int) := wrap_rest0 hua2.symm (by rw [B_lit]; omega)
  have w5 := wrap_rest (a := u) (d := d1) (q := Q1) (y := y') (r := R1) hdm1.symm (by omega) (by rw [B_lit]; omega)
  have w6 := wrap_rest (a := R1) (d := d0) (q := Q0) (y := y') (r := R0) hdm0.symm (by omega) (by rw [B_lit]; omega)
  obtain ⟨q3, hq3⟩ : ∃ w, w = Q1 * 4294967296 := ⟨_, rfl⟩
  have w7 : IntKind.u64.wrap ((Q1 : Int) * 4294967296) = (q3 : Int) := by rw [IntWalk.u64_in _ (by omega)]; omega
  have w8 : IntKind.u64.wrap ((q3 : Int) + Q0) = (divQ h l y : Int) := by rw [hqd, ← hq3, IntWalk.u64_in _ (by omega)]; omega
  have w9 : shiftI .shr .u64 R0 s = some (.int .u64 (divR h l y)) := by rw [shr_word (by omega), hrd]
  have hyhI : ¬ (y : Int) ≤ h := by omega
  simp [-BitVec.toNat_and, -BitVec.toNat_or, lf98, hy0, hyh, hh0, hlead, hws, hws2, e1, e2, e3, e4, e5, e6, e7, e8, e9, ha0, ha0', w1, w2, Tdiv_mu, Tdiv_lead]
  refine div_loop0 (g2 := .p (.int .u64 y')) (g8 := .p (.int .u64 s)) (g11 := .p (.int .u64 u)) (g14 := .p (.int .u64 d0)) (un := u) (d := d1) (a := a) (b := b) (q0 := q0) (r0 := r0) (Q := Q1) hua.symm hQ1 (by omega) haH haG hbG hd1G ?_ ?_ (by omega) (by simp) (by simp) (by simp) (by simp) (by simp) (by simp) (by simp) (by simp) (by simp) ?_
  ·rw [hq0]; exact digit_first hQ1 (by omega) hd1G
  ·rw [hq0]; exact first_le (by omega) haH hbG
  intro fr' f9 f10 f13 f15 f2 f8 f11 f14
  simp [f9, f10, f13, f15, f2, f8, f11, f14, w3, w4, w5, ha0, ha0']
  refine div_loop1 (g2 := .p (.int .u64 y')) (g8 := .p (.int .u64 s)) (g15 := .p (.int .u64 Q1)) (g17 := .p (.int .u64 R1)) (un := R1) (d := d0) (a := a) (b := b) (q0 := q2) (r0 := r2) (Q := Q0) hua2.symm hQ0 (by omega) haH haG hbG hd0G ?_ ?_ (by omega) (by simp [f9]) (by simp [f10]) (by simp [f14]) (by simp) (by simp) (by simp [f2]) (by simp [f8]) (by simp [f15]) (by simp) ?_
  ·rw [hq2]; exact digit_first hQ0 (by omega) hd0G
  ·rw [hq2]; exact first_le (by omega) haH hbG
  intro fr2 g9 g10 g14 g18 g2 g8 g15 g17
  simp [g9, g10, g14, g18, g2, g8, g15, g17, w6, w7, w8, w9]
end Go.Proofs.Ytbdccebpehogjaa

/-
 nat: a number by a limb.
-/
namespace Go.Proofs.Ytbdccebpehogjaa
open Go Go.Abs Go.Limbs
variable {base : Prot}
set_option maxRecDepth 20000
attribute [local irreducible] vc
attribute [local simp] pureS touchV freezeL fuel shiftV u64 au
theorem drop_set_self {l : List Nat} {m : Nat} (h : m < l.length) (x : Nat) : (l.set m x).drop m = x :: l.drop (m + 1) := by
 rw [drop_get (a := l.set m x) (x := x) (by simp [h]), List.drop_set_of_lt (by omega)]
def Tby : Tab := (Tab.none.with 64 (pureS sTrim)).with 98 (pureS sDiv64)
theorem Tby_ok : TabOk Try.prog base Tby := Tab.with_ok (Tab.with_ok Tab.none_ok trim_ok) div64_ok
theorem Tby_mu (f : FuncId) (a : List AVal) (H : Heap) : Tby.mu f a H = none := (rfl)
theorem Tby_trim : Tby.fn 64 = pureS sTrim := (rfl)
theorem Tby_div : Tby.fn 98 = pureS sDiv64 := (rfl)
def sByLimb : List PVal → Option PVal
 | [.lst xs, .int .u64 k] => match decN xs with | some a => if 0 < k ∧ k.toNat < B then some (.tup [numP (a / k.toNat), .int .u64 (a % k.toNat : Nat)]) else none | _ => none
 | _ => none
theorem sByLimb_num {a k : Nat} (ha : len a ≤ 100000) (hk : 0 < k) (hk2 : k < B) : sByLimb [.lst ((limbs a).map u64), .int .u64 k] = some (.tup [.lst ((limbs (a / k)).map u64), .int .u64 (a % k : Nat)]) := by
 simp only [sByLimb, decN_num ha]
 have : (0 : Int) < k ∧ (k : Int).toNat < B := ⟨by omega, by simpa using hk2⟩
 rw [if_pos this]
 rfl
theorem byLimb_ok : FnOk Try.prog base 84 (pureS sByLimb) := by
 refine pure_of_vc hmix Tby_ok globNone low84 fun args z hs hf => ?_
 unfold sByLimb at hs
 split at hs
 case h_2 => cases hs
 rename_i xs k
 split at hs
 case h_2 => cases hs
 rename_i a ha
 split at hs
 case isFalse => cases hs
 rename_i hk
 cases hs
 obtain ⟨rfl, hla⟩ := decN_some ha
 obtain ⟨k, rfl⟩ := Int.eq_ofNat_of_zero_le (a := k) (by omega)
 simp only [Int.toNat_natCast] at hk ⊢
 have hk0 : 0 < k := by omega
 have hkB := hk.2
 refine ⟨by simp [lf84], ?_⟩
 have la : (limbs a).length = len a := rfl
 have wa := wf_limbs a
 have hcap := mul_capI (len a) (by omega)
 have hi0 : IntKind.i64.wrap ((len a : Int) - 1) = (len a : Int) - 1 := IntWalk.i64_in _ (by omega)
 obtain ⟨R, hR⟩ : ∃ R, R = a % k := ⟨_, rfl⟩
 rw [← hR]
 simp [lf84, la, hcap, hi0]
 simp only [lf84_B0, vc_block]
 refine loop_ind (fun fr H => ∃ (n r : Nat) (l : List Nat), n ≤ len a ∧ l.length = len a ∧ Wf l ∧ r < k ∧ val ((limbs a).drop n) = k * val (l.drop n) + r ∧ H = [rowE 0 l] ∧ fr 0 = .p (.lst ((limbs a).map u64)) ∧ fr 1 = .p (.int .u64 k) ∧
   fr 4 = .own 0 0 (len a) 0 ∧ fr 5 = .p (.int .u64 r) ∧ fr 6 = .p (.int .i64 ((n : Int) - 1)))
  (fun fr _ => dvar (fr 6)) ⟨len a, 0, List.replicate (len a) 0, by omega, by simp, Wf.zeros _, hk0, by rw [List.drop_eq_nil_of_le (by omega), List.drop_eq_nil_of_le (by simp)]; simp [val_nil], by simp [rowE], by simp, by simp, by simp, by simp, by simp⟩ ?_
 rintro fr H ⟨n, r, l, hn, hl, hwl, hrk, hv, rfl, h0, h1, h4, h5, h6⟩
 by_cases hn0 : 0 < n
 ·obtain ⟨m, rfl⟩ : ∃ m, n = m + 1 := ⟨n - 1, by omega⟩
  have e6 : (((m + 1 : Nat) : Int) - 1) = (m : Int) := by omega
  rw [e6] at h6
  obtain ⟨x, hx⟩ : ∃ x, (limbs a)[m]? = some x := ⟨_, List.getElem?_eq_getElem (by omega)⟩
  have hml : m < l.length := by omega
  have hmn : m < len a := by omega
  obtain ⟨o, ho⟩ : ∃ o, l[m]? = some o := ⟨_, List.getElem?_eq_getElem hml⟩
  have hxB := wa.get hx
  have hD := sDiv64_nat hrk hxB hkB
  have hw : IntKind.i64.wrap ((m : Int) - 1) = (m : Int) - 1 := IntWalk.i64_in _ (by omega)
  simp [h0, h1, h4, h5, h6, hx, hD, hmn, ho, hw, rowE, Tby_mu, Tby_div, dvar]
  refine ⟨m, by omega, divR r x k, l.set m (divQ r x k), by simp [hl], hwl.set _ (div_lt hrk hxB), Nat.mod_lt _ hk0, ?_, by rw [List.map_set]; rfl, rfl, rfl⟩
  rw [val_drop hx, drop_set_self hml, val_cons]
  exact div_step hv
 ·have : n = 0 := by omega
  subst this
  rw [List.drop_zero, List.drop_zero, val_limbs] at hv
  obtain ⟨hq, hr⟩ := div_done hv hrk
  obtain ⟨hT, ht⟩ := row_end hl hwl (by omega) hq
  have hrR : r = R := by rw [hR, hr]
  subst hrR
  simp [h4, h5, h6, rowE, hl, hT, ht, mapO_au_take, mapO_au, touch_au, touch_au_take, Tby_mu, Tby_trim]
end Go.Proofs.Ytbdccebpehogjaa

/-
 nat: a number times a power of two.
-/
namespace Go.Proofs.Ytbdccebpehogjaa
open Go Go.Abs Go.Limbs
variable {base : Prot}
set_option maxRecDepth 20000
attribute [local irreducible] vc
attribute [local simp] pureS touchV freezeL fuel shiftV u64 au
def Ttr : Tab := Tab.none.with 64 (pureS sTrim)
theorem Ttr_ok : TabOk Try.prog base Ttr := Tab.with_ok Tab.none_ok trim_ok
theorem Ttr_mu (f : FuncId) (a : List AVal) (H : Heap) : Ttr.mu f a H = none := (rfl)
theorem Ttr_trim : Ttr.fn 64 = pureS sTrim := (rfl)
def sLeft : List PVal → Option PVal
 | [.lst xs, .int .i64 n] => match decN xs with | some a => if 0 ≤ n ∧ n ≤ 6000000 then some (numP (a * 2 ^ n.toNat)) else none | _ => none
 | _ => none
theorem sLeft_num {a n : Nat} (ha : len a ≤ 100000) (hn : n ≤ 6000000) : sLeft [.lst ((limbs a).map u64), .int .i64 n] = some (.lst ((limbs (a * 2 ^ n)).map u64)) := by
 simp only [sLeft, decN_num ha]
 rw [if_pos ⟨by omega, by omega⟩]
 rfl
theorem left_step {l : List Nat} {j lo hi h : Nat} (hw : Wf l) (hlo : h + lo < B) (hhi : hi < B) (hj : j + 1 < l.length) :
  Wf ((l.set j (h + lo)).set (j + 1) hi) ∧ ((l.set j (h + lo)).set (j + 1) hi).length = l.length ∧
  val (((l.set j (h + lo)).set (j + 1) hi).take (j + 1)) = val (l.take j) + B ^ j * (h + lo) ∧ ((l.set j (h + lo)).set (j + 1) hi)[j + 1]? = some hi ∧
  ((l.set j (h + lo)).set (j + 1) hi).drop (j + 2) = l.drop (j + 2) := by
 refine ⟨(hw.set _ hlo).set _ hhi, by simp, ?_, by simp [hj], ?_⟩
 ·rw [take_set, val_take_set (by omega)]
 ·rw [List.drop_set_of_lt (by omega), List.drop_set_of_lt (by omega)]
theorem left_ok : FnOk Try.prog base 35 (pureS sLeft) := by
 refine pure_of_vc hmix Ttr_ok globNone low35 fun args z hs hf => ?_
 unfold sLeft at hs
 split at hs
 case h_2 => cases hs
 rename_i xs n
 split at hs
 case h_2 => cases hs
 rename_i a ha
 split at hs
 case isFalse => cases hs
 rename_i hn
 cases hs
 obtain ⟨rfl, hla⟩ := decN_some ha
 obtain ⟨n, rfl⟩ := Int.eq_ofNat_of_zero_le hn.1
 simp only [Int.toNat_natCast] at hn ⊢
 have hn := hn.2
 refine ⟨by simp [lf35], ?_⟩
 have la : (limbs a).length = len a := rfl
 have wa := wf_limbs a
 obtain ⟨w, hw⟩ : ∃ w, w = n / 64 := ⟨_, rfl⟩
 obtain ⟨s, hs⟩ : ∃ s, s = n % 64 := ⟨_, rfl⟩
 have hs64 : s < 64 := by omega
 obtain ⟨M, hM⟩ : ∃ M, M = len a + w := ⟨_, rfl⟩
 obtain ⟨N, hN⟩ : ∃ N, N = M + 1 := ⟨_, rfl⟩
 have hcap := mul_capI N (by omega)
 have q1 : IntKind.i64.wrap ((n : Int).tdiv 64) = (w : Int) := by rw [Int.tdiv_eq_ediv_of_nonneg (by omega), IntWalk.i64_in _ (by omega)]; omega
 have q1' : IntKind.i64.wrap ((n : Int) / 64) = (w : Int) := by rw [IntWalk.i64_in _ (by omega)]; omega
 have q2 : (n : Int).tmod 64 = (s : Int) := by rw [Int.tmod_eq_emod_of_nonneg (by omega)]; omega
 have q2' : (n : Int) % 64 = (s : Int) := by omega
 have q3 : IntKind.u64.wrap (s : Int) = s := IntWalk.u64_in _ (by omega)
 have hw1 : IntKind.i64.wrap ((len a : Int) + w) = (M : Int) := by rw [← Int.natCast_add, ← hM]; exact wrap_i (by omega)
 have hw2 : IntKind.i64.wrap ((M : Int) + 1) = (N : Int) := by rw [wrap_succ (i := M) (by omega), hN]
 have hpow : 2 ^ n = B ^ w * 2 ^ s := by rw [B_pow, ← Nat.pow_add, show 64 * w + s = n by omega]
 simp [lf35, la, q1, q1', q2, q2', q3, hw1, hw2, hcap]
 simp only [lf35_B0, vc_block]
 refine loop_ind (fun fr H => ∃ (i h : Nat) (l : List Nat), i ≤ len a ∧ l.length = N ∧ Wf l ∧ h < 2 ^ s ∧ l[i + w]? = some h ∧ val (l.take (i + w)) + B ^ (i + w) * h = val ((limbs a).take i) * 2 ^ n ∧ l.drop (i + w + 1) = List.replicate (len a - i) 0 ∧ H = [rowE 0 l] ∧
   fr 1 = .p (.int .i64 n) ∧ fr 5 = .own 0 0 N 0 ∧ fr 6 = .p (.int .u64 s) ∧ fr 19 = .p (.lst ((limbs a).map u64)) ∧ fr 20 = .p (.int .i64 (len a)) ∧ fr 21 = .p (.int .i64 i))
  (fun fr _ => len a - ivar (fr 21)) ⟨0, 0, List.replicate N 0, by omega, by simp, Wf.zeros _, Nat.two_pow_pos s, by rw [List.getElem?_replicate, if_pos (by omega)], ?_, ?_, by simp [rowE], by simp, by simp, by simp, by simp, by simp, by simp⟩ ?_
 ·simp [val_nil, val_zeros, List.take_replicate]
 ·simp [List.drop_replicate]; omega
 rintro fr H ⟨i, h, l, hi, hl, hwl, hh, hlh, hv, hz, rfl, h1, h5, h6, h19, h20, h21⟩
 by_cases hlt : i < len a
 ·obtain ⟨x, hx⟩ : ∃ x, (limbs a)[i]? = some x := ⟨_, List.getElem?_eq_getElem (by omega)⟩
  have hxB := wa.get hx
  obtain ⟨j, hj⟩ : ∃ j, j = i + w := ⟨_, rfl⟩
  have hw3 : IntKind.i64.wrap ((i : Int) + w) = (j : Int) := by rw [← Int.natCast_add, ← hj]; exact wrap_i (by omega)
  have hw4 := wrap_succ (i := j) (by omega)
  obtain ⟨j1, hj1⟩ : ∃ k, k = j + 1 := ⟨_, rfl⟩
  rw [← hj1] at hw4
  obtain ⟨lo, hlo⟩ : ∃ t, t = x * 2 ^ s % B := ⟨_, rfl⟩
  obtain ⟨hb, hhb⟩ : ∃ t, t = x * 2 ^ s / B := ⟨_, rfl⟩
  have hsum : h + lo < B := by rw [hlo]; exact shl_sum_lt (by omega) hh
  have hbl : hb < 2 ^ s := by rw [hhb]; exact shl_high_lt hxB
  have hbB : hb < B := Nat.lt_of_lt_of_le hbl (by rw [← pow64]; exact Nat.pow_le_pow_right (by omega) (by omega))
  have e1 : shiftI .shl .u64 x s = some (.int .u64 lo) := by rw [shl_word (by omega), hlo]
  have e2 : shiftI .shr .u64 x ((64 - s : Nat) : Int) = some (.int .u64 hb) := by rw [shr_word (by omega), hhb, shl_high (by omega)]
  have e3 : IntKind.u64.wrap (64 - (s : Int)) = ((64 - s : Nat) : Int) := by rw [IntWalk.u64_in _ (by omega)]; omega
  have hloB : lo < B := by omega
  have e4 := or_bits (x := h) (y := lo) (by omega) hloB
  rw [show h ||| lo = h + lo by rw [hlo]; exact or_shl (by omega) hh] at e4
  have e5 : IntKind.u64.wrap ((hb : Int) % 2 ^ IntKind.u64.bits) = (hb : Int) := by
   have : (hb : Int) % 2 ^ IntKind.u64.bits = hb := Int.emod_eq_of_lt (by omega) (by have := hbB; rw [B_lit] at this; show (hb : Int) < 2 ^ 64; omega)
   rw [this, wrap_u hbB]
  obtain ⟨t, ht⟩ : ∃ t, t = h + lo := ⟨_, rfl⟩
  rw [← ht] at e4
  rw [← hj] at hlh
  have hjN : j < N := by omega
  have hj1N : j1 < N := by omega
  have hjl : j < l.length := by omega
  have hz1 : l[j1]? = some 0 := by
   have := congrArg (fun t => t[0]?) hz
   simp only [List.getElem?_drop] at this
   rw [← hj, ← hj1, List.getElem?_replicate, if_pos (by omega)] at this
   exact this
  have hne : j ≠ j1 := by omega
  obtain ⟨s1, s2, s3, s4, s5⟩ := left_step (j := j) hwl hsum hbB (by omega)
  rw [← hj1] at s1 s2 s3 s4 s5
  have hfin : ∀ L : List Nat, L = (l.set j (h + lo)).set j1 hb → i + 1 ≤ len a ∧ L.length = N ∧ Wf L ∧ hb < 2 ^ s ∧ L[i + 1 + w]? = some hb ∧ val (L.take (i + 1 + w)) + B ^ (i + 1 + w) * hb = val ((limbs a).take (i + 1)) * 2 ^ n ∧
    L.drop (i + 1 + w + 1) = List.replicate (len a - (i + 1)) 0 := by
   rintro L rfl
   rw [show i + 1 + w = j1 by omega]
   refine ⟨by omega, by omega, s1, hbl, s4, ?_, ?_⟩
   ·rw [s3, val_take_succ hx, hlo, hhb, hj1, Nat.pow_succ]
    refine shl_step (by rw [hj]; exact hv) ?_
    rw [hpow, hj, Nat.pow_add]
    rw [Nat.mul_assoc, Nat.mul_comm]
   ·rw [show j1 + 1 = j + 2 by omega, s5, show j + 2 = (i + w + 1) + 1 by omega, ← List.drop_drop, hz, List.drop_replicate, show len a - i - 1 = len a - (i + 1) by omega]
  by_cases hs0 : 0 < s
  ·have hsI : (0 : Int) < s := by omega
   simp [-BitVec.toNat_or, h1, h5, h6, h19, h20, h21, hlt, hx, getE hx, la, q1, q1', hw3, hw4, e1, e2, e3, e4, e5, hjN, hj1N, hlh, hz1, hne, hs0, hsI, rowE, wrap_succ (i := i) (by omega), ivar]
   obtain ⟨c1, c2, c3, c4, c5, c6, c7⟩ := hfin _ rfl
   exact ⟨⟨i + 1, c1, hb, _, c2, c3, c4, c5, c6, c7, by rw [List.map_set, List.map_set, ← ht]; rfl, by omega⟩, by omega⟩
  ·have hsz : s = 0 := by omega
   subst hsz
   have e1 : shiftI .shl .u64 (x : Int) 0 = some (.int .u64 lo) := e1
   simp [-BitVec.toNat_or, h1, h5, h6, h19, h20, h21, hlt, hx, getE hx, la, q1, q1', hw3, hw4, e1, e4, hjN, hlh, rowE, wrap_succ (i := i) (by omega), ivar]
   have hb0 : hb = 0 := by omega
   have hL : l.set j (h + lo) = (l.set j (h + lo)).set j1 hb := by
    rw [hb0]
    exact (set_same (by rw [List.getElem?_set_ne (by omega)]; exact hz1)).symm
   obtain ⟨c1, c2, c3, c4, c5, c6, c7⟩ := hfin _ hL
   exact ⟨⟨i + 1, c1, hb, _, c2, c3, hb0, c5, c6, c7, by rw [List.map_set, ← ht]; rfl, by omega⟩, by omega⟩
 ·have hil : i = len a := by omega
  subst hil
  have hvl : val l = a * 2 ^ n := by
   have h2 := val_split l (i := len a + w) (by omega)
   rw [drop_get hlh, hz, Nat.sub_self, List.replicate_zero] at h2
   rw [h2, val_cons, val_nil, Nat.mul_zero, Nat.add_zero, hv, List.take_of_length_le (by omega), val_limbs]
  obtain ⟨hT, ht⟩ := row_end hl hwl (by omega) hvl
  simp [h5, h20, h21, rowE, hl, hT, ht, mapO_au_take, mapO_au, touch_au, touch_au_take, Ttr_mu, Ttr_trim]
end Go.Proofs.Ytbdccebpehogjaa

/-
 nat: a number by a power of two.
-/
namespace Go.Proofs.Ytbdccebpehogjaa
open Go Go.Abs Go.Limbs
variable {base : Prot}
set_option maxRecDepth 20000
attribute [local irreducible] vc
attribute [local simp] pureS touchV freezeL fuel shiftV u64 au
theorem sizeOk_u64 (l : List Nat) : sizeOk 1 (l.map u64) = true := by
 simp [sizeOk]
def sRight : List PVal → Option PVal
 | [.lst xs, .int .i64 n] => match decN xs with | some a => if 0 ≤ n ∧ n < 9223372036854775807 then some (numP (a / 2 ^ n.toNat)) else none | _ => none
 | _ => none
theorem sRight_num {a n : Nat} (ha : len a ≤ 100000) (hn : n < 9223372036854775807) : sRight [.lst ((limbs a).map u64), .int .i64 n] = some (.lst ((limbs (a / 2 ^ n)).map u64)) := by
 simp only [sRight, decN_num ha]
 rw [if_pos ⟨by omega, by omega⟩]
 rfl
theorem right_limb {A : List Nat} {i x s : Nat} (wA : Wf A) (hx : A[i]? = some x) (hs : s ≤ 64) : val A / 2 ^ s / B ^ i % B =
  if h : s = 0 then x else match A[i + 1]? with | some y => x / 2 ^ s + y * 2 ^ (64 - s) % B | none => x / 2 ^ s := by
 have hxB := wA.get hx
 have e : val A / 2 ^ s / B ^ i = val (A.drop i) / 2 ^ s := by rw [val_drop_eq wA, Nat.div_div_eq_div_mul, Nat.div_div_eq_div_mul, Nat.mul_comm]
 rw [e, val_drop hx]
 split
 ·rename_i h
  subst h
  rw [Nat.pow_zero, Nat.div_one, Nat.add_mul_mod_self_left, Nat.mod_eq_of_lt hxB]
 ·cases hy : A[i + 1]? with
  | some y => rw [val_drop hy]; exact shr_limb hs hxB
  | none =>
   have := List.getElem?_eq_none_iff.1 hy
   rw [List.drop_eq_nil_of_le this, val_nil, Nat.mul_zero, Nat.add_zero]
   exact Nat.mod_eq_of_lt (Nat.lt_of_le_of_lt (Nat.div_le_self _ _) hxB)
theorem right_ok : FnOk Try.prog base 74 (pureS sRight) := by
 refine pure_of_vc hmix Ttr_ok globNone low74 fun args z hs hf => ?_
 unfold sRight at hs
 split at hs
 case h_2 => cases hs
 rename_i xs n
 split at hs
 case h_2 => cases hs
 rename_i a ha
 split at hs
 case isFalse => cases hs
 rename_i hn
 cases hs
 obtain ⟨rfl, hla⟩ := decN_some ha
 obtain ⟨n, rfl⟩ := Int.eq_ofNat_of_zero_le hn.1
 simp only [Int.toNat_natCast] at hn ⊢
 have hn := hn.2
 refine ⟨by simp [lf74], ?_⟩
 have la : (limbs a).length = len a := rfl
 have wa := wf_limbs a
 obtain ⟨w, hw⟩ : ∃ w, w = n / 64 := ⟨_, rfl⟩
 obtain ⟨s, hs⟩ : ∃ s, s = n % 64 := ⟨_, rfl⟩
 have hs64 : s < 64 := by omega
 have q1' : IntKind.i64.wrap ((n : Int) / 64) = (w : Int) := by rw [IntWalk.i64_in _ (by omega)]; omega
 have q1 : IntKind.i64.wrap ((n : Int).tdiv 64) = (w : Int) := by rw [Int.tdiv_eq_ediv_of_nonneg (by omega), q1']
 have q2 : (n : Int).tmod 64 = (s : Int) := by rw [Int.tmod_eq_emod_of_nonneg (by omega)]; omega
 have q3 : IntKind.u64.wrap (s : Int) = s := IntWalk.u64_in _ (by omega)
 have hpow : 2 ^ n = B ^ w * 2 ^ s := by rw [B_pow, ← Nat.pow_add, show 64 * w + s = n by omega]
 by_cases hwl : len a ≤ w
 ·have hz : a / 2 ^ n = 0 := by
   refine Nat.div_eq_of_lt (Nat.lt_of_lt_of_le (lt_len a) (Nat.le_trans (Bpow_le hwl) ?_))
   rw [hpow]
   exact Nat.le_mul_of_pos_right _ (Nat.two_pow_pos s)
  rw [hz]
  simp [lf74, la, q1, q1', hwl, numP, lstP, limbs_zero]
 ·obtain ⟨A, hA⟩ : ∃ A, A = (limbs a).drop w := ⟨_, rfl⟩
  have wA : Wf A := by rw [hA]; exact wa.drop _
  have hAv : val A = a / B ^ w := by rw [hA, val_drop_eq wa, val_limbs]
  have hAl : A.length = len a - w := by rw [hA]; simp [la]
  have hAA : List.drop w (List.take (len a) (List.map u64 (limbs a))) = A.map u64 := by
   rw [List.take_of_length_le (by simp [la]), hA, List.map_drop]
  have hAA' : List.drop w (List.map u64 (limbs a)) = A.map u64 := by rw [hA, List.map_drop]
  have hwle : w ≤ len a := by omega
  have hdiv : a / 2 ^ n = val A / 2 ^ s := by rw [hAv, Nat.div_div_eq_div_mul, ← hpow]
  have hcap := mul_capI A.length (by omega)
  rw [hdiv]
  simp [lf74, la, q1, q1', q2, q3, hwl, hwle, hAA, hAA', sizeOk_u64, hcap]
  simp only [lf74_B0, vc_block]
  refine loop_ind (fun fr H => ∃ (i : Nat) (l : List Nat), i ≤ A.length ∧ l.length = A.length ∧ Wf l ∧ val (l.take i) = val A / 2 ^ s % B ^ i ∧ H = [rowE 0 l] ∧ fr 0 = .p (.lst (A.map u64)) ∧
    fr 5 = .p (.int .u64 s) ∧ fr 6 = .own 0 0 A.length 0 ∧ fr 24 = .p (.lst (A.map u64)) ∧ fr 25 = .p (.int .i64 A.length) ∧ fr 26 = .p (.int .i64 i))
   (fun fr _ => A.length - ivar (fr 26)) ⟨0, List.replicate A.length 0, by omega, by simp, Wf.zeros _, by simp [val_nil, Nat.mod_one], by simp [rowE], by simp, by simp, by simp, by simp, by simp, by simp⟩ ?_
  rintro fr H ⟨i, l, hi, hl, hwfl, hv, rfl, h0, h5, h6, h24, h25, h26⟩
  by_cases hlt : i < A.length
  ·obtain ⟨x, hx⟩ : ∃ x, A[i]? = some x := ⟨_, List.getElem?_eq_getElem hlt⟩
   have hxB := wA.get hx
   have hil : i < l.length := by omega
   obtain ⟨o, ho⟩ : ∃ o, l[i]? = some o := ⟨_, List.getElem?_eq_getElem hil⟩
   obtain ⟨xs, hxs⟩ : ∃ t, t = x / 2 ^ s := ⟨_, rfl⟩
   have hxsB : xs < B := by rw [hxs]; exact Nat.lt_of_le_of_lt (Nat.div_le_self _ _) hxB
   have e1 : shiftI .shr .u64 x s = some (.int .u64 xs) := by rw [shr_word (by omega), hxs]
   have hlimb := right_limb wA hx (show s ≤ 64 by omega)
   have step : ∀ t, val A / 2 ^ s / B ^ i % B = t → val ((l.set i t).take (i + 1)) = val A / 2 ^ s % B ^ (i + 1) := fun t ht => by
    rw [val_take_set hil, hv, mod_step ht]
   have hw5 := wrap_succ (i := i) (by omega)
   by_cases hs0 : s = 0
   ·rw [dif_pos hs0] at hlimb
    subst hs0
    have e1 : shiftI .shr .u64 (x : Int) 0 = some (.int .u64 xs) := e1
    have hxx : xs = x := by rw [hxs]; simp
    subst hxx
    simp [h0, h5, h6, h24, h25, h26, hlt, getE hx, e1, hil, getE ho, rowE, hw5, ivar]
    exact ⟨⟨i + 1, by omega, l.set i xs, by simp [hl], hwfl.set _ hxsB, by simpa using step _ hlimb, by rw [List.map_set]; rfl, by omega⟩, by omega⟩
   ·rw [dif_neg hs0] at hlimb
    have hsI : (0 : Int) < s := by omega
    have hsN : 0 < s := by omega
    by_cases hlt2 : i + 1 < A.length
    ·obtain ⟨y, hy⟩ : ∃ y, A[i + 1]? = some y := ⟨_, List.getElem?_eq_getElem hlt2⟩
     rw [hy] at hlimb
     simp only at hlimb
     obtain ⟨lo, hlo⟩ : ∃ t, t = y * 2 ^ (64 - s) % B := ⟨_, rfl⟩
     have hloB : lo < B := by rw [hlo]; exact Nat.mod_lt _ B_pos
     have e2 : shiftI .shl .u64 y ((64 - s : Nat) : Int) = some (.int .u64 lo) := by rw [shl_word (by omega), hlo]
     have e3 : IntKind.u64.wrap (64 - (s : Int)) = ((64 - s : Nat) : Int) := by rw [IntWalk.u64_in _ (by omega)]; omega
     have e4 := or_bits hxsB hloB
     rw [show xs ||| lo = xs + lo by rw [hxs, hlo]; exact shr_or (by omega) hxB] at e4
     obtain ⟨t, ht⟩ : ∃ t, t = xs + lo := ⟨_, rfl⟩
     rw [← ht] at e4
     have htB : t < B := by rw [← hxs, ← hlo, ← ht] at hlimb; rw [← hlimb]; exact Nat.mod_lt _ B_pos
     obtain ⟨i1, hi1⟩ : ∃ k, k = i + 1 := ⟨_, rfl⟩
     rw [← hi1] at hw5 hy
     have hlt3 : i1 < A.length := by omega
     rw [← hxs, ← hlo, ← ht] at hlimb
     simp [h0, h5, h6, h24, h25, h26, hlt, hlt3, getE hx, e1, hil, getE ho, hsI, hsN, rowE, hw5]
     rw [vc_regionW]
     refine ⟨[], ?_⟩
     simp [-BitVec.toNat_or, h0, h5, h6, h24, h25, h26, hlt, hlt3, getE hx, getE hy, e1, e2, e3, e4, hil, getE ho, rowE, hw5, ivar]
     exact ⟨⟨i1, by omega, l.set i t, by simp [hl], hwfl.set _ htB, by rw [hi1]; exact step _ hlimb, by rw [List.map_set]; rfl, rfl⟩, by omega⟩
    ·have hy : A[i + 1]? = none := List.getElem?_eq_none (by omega)
     rw [hy] at hlimb
     simp only at hlimb
     rw [← hxs] at hlimb
     obtain ⟨i1, hi1⟩ : ∃ k, k = i + 1 := ⟨_, rfl⟩
     rw [← hi1] at hw5
     have hlt3 : ¬ i1 < A.length := by omega
     simp [h0, h5, h6, h24, h25, h26, hlt, hlt3, getE hx, e1, hil, getE ho, hsI, hsN, rowE, hw5, ivar]
     exact ⟨⟨i1, by omega, l.set i xs, by simp [hl], hwfl.set _ hxsB, by rw [hi1]; exact step _ hlimb, by rw [List.map_set]; rfl, rfl⟩, by omega⟩
  ·have hil : i = A.length := by omega
   subst hil
   have hvl : val l = val A / 2 ^ s := by
    rw [List.take_of_length_le (by omega)] at hv
    rw [hv]
    exact Nat.mod_eq_of_lt (Nat.lt_of_le_of_lt (Nat.div_le_self _ _) (val_lt wA))
   obtain ⟨hT, ht⟩ := row_end hl hwfl (by omega) hvl
   simp [h6, h25, h26, rowE, hl, hT, ht, mapO_au_take, mapO_au, touch_au, touch_au_take, Ttr_mu, Ttr_trim]
end Go.Proofs.Ytbdccebpehogjaa
