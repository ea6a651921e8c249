/-
  What strings.Cut and strings.Trim compute at one byte, and rat.Parse, for texts of at most 80000 bytes.
-/
import Derived.Test.YtoechbpjfkabmaaGreatDoorRatD
import Derived.Test.YtoechbpjfkabmaaGreatDoorWholeD
import Derived.Test.YtoechbpjfkabmaaGreatDoorRatA
import Derived.Lib.Bytealg
import Derived.Laws.Externs
set_option linter.unusedSimpArgs false
set_option linter.unusedVariables false
set_option linter.constructorNameAsVariable false

/-
  strings.Cut at a slash; strings.Trim of noughts; rat.Parse.
-/
namespace Go.Proofs.YtoechbpjfkabmaaGreatDoor
open Go Go.Abs Go.Limbs
variable {base : Prot}
set_option maxRecDepth 20000
attribute [local irreducible] vc
attribute [local simp] pureS touchV freezeL fuel shiftV u64 au
/-! ### The plain law -/
/-- Ahead of the first such byte, behind it, and whether there is one. -/
def cutU (c : UInt8) (s : List UInt8) : List UInt8 := s.takeWhile (· != c)
def cutD (c : UInt8) (s : List UInt8) : List UInt8 := (s.dropWhile (· != c)).tail
def cutB (c : UInt8) (s : List UInt8) : Bool := !(s.dropWhile (· != c)).isEmpty
def signL (s : List UInt8) : Bool := match s with | c :: _ => decide (c = 45) | [] => false
def digsL (s : List UInt8) : List UInt8 := match s with | c :: r => if c = 45 then r else c :: r | [] => []
def lowF (neg : Bool) (n d : List Nat × Nat) : Fr × Nat := if n.2 = 0 ∧ d.2 = 0 then heldQ (mkRat (zOf neg (val n.1)) (val d.1)) else (zF, 4)
def downL (s : List UInt8) : List UInt8 := if cutB 47 s then cutD 47 s else [49]
def parseQ (s : List UInt8) : Fr × Nat :=
  if digS (digsL (cutU 47 s)) && digS (downL s) && !((downL s).all (· == 48)) then lowF (signL (cutU 47 s)) (parseL (digsL (cutU 47 s))) (parseL (downL s)) else (zF, 2)
def sQParse : List PVal → Option PVal
  | [.str s] => if s.length ≤ 80000 then some (pairF (parseQ s)) else none
  | _ => none
theorem sQParse_at {s : List UInt8} (h : s.length ≤ 80000) : sQParse [.str s] = some (pairF (parseQ s)) := if_pos h
end Go.Proofs.YtoechbpjfkabmaaGreatDoor

/-
  rat: Parse of Text: the plain law.
-/
namespace Go.Proofs.YtoechbpjfkabmaaGreatDoor
open Go Go.Abs Go.Limbs Go.Lib
set_option maxRecDepth 20000
theorem digit_valQ {d : Nat} (h : d < 10) : (digit d).toNat = 48 + d := by
  unfold digit
  rw [UInt8.toNat_ofNat']
  omega
theorem digit_isQ {d : Nat} (h : d < 10) : isD (digit d) = true := by
  have := digit_valQ h
  unfold isD
  simp
  omega
theorem numD_appQ : ∀ (l r : List UInt8) (acc : Nat), numD acc (l ++ r) = numD (numD acc l) r
  | [], _, _ => rfl
  | c :: l, r, acc => numD_appQ l r _
theorem numD_snocQ (l : List UInt8) (c : UInt8) : numD 0 (l ++ [c]) = numD 0 l * 10 + (c.toNat - 48) := by
  rw [numD_appQ]
  rfl
theorem dec_ne (n : Nat) : decDigits n ≠ [] := by
  by_cases h : n < 10
  · rw [decDigits_one h]; simp
  · rw [dec_ten h]; simp
theorem numD_decQ (n : Nat) : numD 0 (decDigits n) = n ∧ (decDigits n).all isD = true := by
  induction n using Nat.strongRecOn with
  | _ n ih =>
    by_cases h : n < 10
    · rw [decDigits_one h]
      have hv := digit_valQ h
      refine ⟨?_, ?_⟩
      · have := numD_snocQ [] (digit n)
        rw [List.nil_append] at this
        show numD 0 [digit n] = n
        rw [this, show numD 0 [] = 0 from rfl]
        omega
      · show List.all [digit n] isD = true
        simp [digit_isQ h]
    · obtain ⟨i1, i2⟩ := ih (n / 10) (by omega)
      have hm : n % 10 < 10 := Nat.mod_lt _ (by decide)
      have hv := digit_valQ hm
      rw [dec_ten h, numD_snocQ, i1, List.all_append, i2]
      refine ⟨by omega, by simp [digit_isQ hm]⟩
theorem digS_decQ (n : Nat) : digS (decDigits n) = true := by
  unfold digS
  rw [(numD_decQ n).2]
  have := dec_ne n
  cases h : decDigits n with
  | nil => exact absurd h this
  | cons c r => rfl
theorem parse_decQ {n : Nat} (hn : len n ≤ 64) : parseL (decDigits n) = (limbs n, 0) := by
  obtain ⟨h1, h2⟩ := numD_decQ n
  unfold parseL
  rw [digS_decQ n, if_pos rfl]
  have hl := dec_1280 hn
  have := (List.dropWhile_sublist (p := (· == 48)) (l := decDigits n)).length_le
  rw [if_neg (by omega), h1, heldL_num hn]
/-- Only noughts: nothing. -/
theorem numD_zeros : ∀ l : List UInt8, l.all (· == 48) = true → numD 0 l = 0
  | [], _ => rfl
  | c :: r, h => by
    simp only [List.all_cons, Bool.and_eq_true, beq_iff_eq] at h
    rw [h.1]
    exact numD_zeros r h.2
theorem dec_zerosQ {n : Nat} (h : n ≠ 0) : (decDigits n).all (· == 48) = false := by
  cases hh : (decDigits n).all (· == 48) with
  | false => rfl
  | true => exact absurd ((numD_decQ n).1.symm.trans (numD_zeros _ hh)) h
theorem isD_ne {c : UInt8} (h : isD c = true) : c ≠ 47 ∧ c ≠ 45 := by
  unfold isD at h
  simp only [decide_eq_true_eq] at h
  constructor
  · rintro rfl; exact absurd h (by decide)
  · rintro rfl; exact absurd h (by decide)
theorem dec_no47 (n : Nat) : ∀ c ∈ decDigits n, c ≠ 47 := fun c hc => (isD_ne (List.all_eq_true.1 (numD_decQ n).2 c hc)).1
theorem textZ_no47 (z : Int) : ∀ c ∈ textZ z, c ≠ 47 := by
  intro c hc
  unfold textZ at hc
  split at hc
  · rcases List.mem_cons.1 hc with rfl | hc
    · decide
    · exact dec_no47 _ c hc
  · exact dec_no47 _ c hc
theorem sign_textZ (z : Int) : signL (textZ z) = decide (z < 0) ∧ digsL (textZ z) = decDigits z.natAbs := by
  unfold textZ
  by_cases hz : z < 0
  · rw [if_pos hz, decide_eq_true hz]
    exact ⟨rfl, rfl⟩
  · rw [if_neg hz, decide_eq_false hz]
    cases h : decDigits z.natAbs with
    | nil => exact absurd h (dec_ne _)
    | cons c r =>
      have hc : c ≠ 45 := (isD_ne (List.all_eq_true.1 (numD_decQ z.natAbs).2 c (by rw [h]; simp))).2
      simp [signL, digsL, hc]
theorem takeW_all {c : UInt8} {l r : List UInt8} (h : ∀ x ∈ l, x ≠ c) : (l ++ c :: r).takeWhile (· != c) = l ∧ (l ++ c :: r).dropWhile (· != c) = c :: r := by
  induction l with
  | nil => simp
  | cons a l ih =>
    have ha : (a != c) = true := bne_iff_ne.2 (h a (by simp))
    obtain ⟨i1, i2⟩ := ih fun x hx => h x (by simp [hx])
    simp [List.takeWhile_cons, List.dropWhile_cons, ha, i1, i2]
theorem takeW_none {c : UInt8} {l : List UInt8} (h : ∀ x ∈ l, x ≠ c) : l.takeWhile (· != c) = l ∧ l.dropWhile (· != c) = [] := by
  induction l with
  | nil => simp
  | cons a l ih =>
    have ha : (a != c) = true := bne_iff_ne.2 (h a (by simp))
    obtain ⟨i1, i2⟩ := ih fun x hx => h x (by simp [hx])
    simp [List.takeWhile_cons, List.dropWhile_cons, ha, i1, i2]
theorem dec_oneQ : decDigits 1 = [49] := decDigits_one (by decide)
theorem parseQ_text {q : Rat} (h : Sm 64 q) : parseQ (textQ q) = (ofQ q, 0) := by
  obtain ⟨s1, s2⟩ := sign_textZ q.num
  have p1 := parse_decQ h.1
  have key : ∀ D : List UInt8, cutU 47 (textQ q) = textZ q.num → downL (textQ q) = D → D = decDigits q.den → parseQ (textQ q) = (ofQ q, 0) := by
    intro D e1 e2 e3
    unfold parseQ
    rw [e1, e2, e3, s1, s2, digS_decQ, digS_decQ, dec_zerosQ q.den_nz]
    rw [if_pos (by simp), p1, parse_decQ h.2]
    unfold lowF
    rw [if_pos ⟨rfl, rfl⟩, val_limbs, val_limbs, zOf_sign, Rat.mkRat_self, heldQ_ok h]
  by_cases hd : q.den = 1
  · have e : textQ q = textZ q.num := by unfold textQ; rw [if_pos hd]
    obtain ⟨t1, t2⟩ := takeW_none (textZ_no47 q.num)
    refine key [49] ?_ ?_ (by rw [hd, dec_oneQ])
    · rw [e]; exact t1
    · rw [e]
      unfold downL cutB
      rw [t2]
      rfl
  · have e : textQ q = textZ q.num ++ 47 :: decDigits q.den := by unfold textQ; rw [if_neg hd]
    obtain ⟨t1, t2⟩ := takeW_all (r := decDigits q.den) (textZ_no47 q.num)
    refine key (decDigits q.den) ?_ ?_ rfl
    · rw [e]; exact t1
    · rw [e]
      unfold downL cutB cutD
      rw [t2]
      rfl
theorem textQ_len {q : Rat} (h : Sm 64 q) : (textQ q).length ≤ 3000 := by
  have h1 := dec_1280 h.1
  have h2 := dec_1280 h.2
  have h3 : (textZ q.num).length ≤ 1281 := by
    unfold textZ
    split <;> (try simp) <;> omega
  unfold textQ
  split
  · omega
  · simp; omega
end Go.Proofs.YtoechbpjfkabmaaGreatDoor

/-
  strings.Cut at a byte, strings.Trim and TrimRight of noughts.
-/
namespace Go.Proofs.YtoechbpjfkabmaaGreatDoor
open Go Go.Abs Go.Limbs
variable {base : Prot}
set_option maxRecDepth 20000
attribute [local irreducible] vc
attribute [local simp] pureS touchV freezeL fuel shiftV u64 au
/-! ### The first such byte -/
theorem idx_spec (c : UInt8) : ∀ s : List UInt8, (cutB c s = false ∧ Lib.indexByte s c = -1 ∧ cutU c s = s ∧ cutD c s = []) ∨
    (cutB c s = true ∧ Lib.indexByte s c = ((cutU c s).length : Int) ∧ (cutU c s).length < s.length ∧ s.take (cutU c s).length = cutU c s ∧ s.drop ((cutU c s).length + 1) = cutD c s)
  | [] => .inl ⟨rfl, rfl, rfl, rfl⟩
  | b :: r => by
    by_cases hb : b = c
    · subst hb
      right
      have e1 : cutU b (b :: r) = [] := by simp [cutU]
      have e2 : cutD b (b :: r) = r := by simp [cutD]
      rw [e1, e2]
      exact ⟨by simp [cutB], by simp [Lib.indexByte], by simp, rfl, by simp⟩
    · have hn : (b != c) = true := bne_iff_ne.2 hb
      have hq : (b == c) = false := beq_false_of_ne hb
      have e1 : cutU c (b :: r) = b :: cutU c r := by simp [cutU, List.takeWhile_cons, hn]
      have e2 : cutD c (b :: r) = cutD c r := by simp [cutD, List.dropWhile_cons, hn]
      have e3 : cutB c (b :: r) = cutB c r := by simp [cutB, List.dropWhile_cons, hn]
      rw [e1, e2, e3]
      rcases idx_spec c r with ⟨h1, h2, h3, h4⟩ | ⟨h1, h2, h3, h4, h5⟩
      · left; exact ⟨h1, by simp [Lib.indexByte, hq, h2], by rw [h3], h4⟩
      · right
        have hne : (Lib.indexByte r c == -1) = false := by rw [h2]; exact beq_false_of_ne (by omega)
        refine ⟨h1, ?_, by simp; omega, by simp [h4], by simp [h5]⟩
        rw [h2] at hne
        simp [Lib.indexByte, hq, hne, h2]
def sIdx : List PVal → Option PVal
  | [.str s, .int .u8 c] => some (.int .i64 (Lib.indexByte s c.toNat.toUInt8))
  | _ => none
theorem idx_ext {P : Program} {f : FuncId} {fn : Func} (hf : P.funcs[f]? = some fn) (h1 : (fn.name == "runtime.NumGoroutine") = false) (h2 : fn.body.isNone = true) (h3 : (Extern.findNext fn).isNone = true)
    (h4 : Extern.find fn = some Extern.BytealgIndexByte.indexByte) : ∀ ps x, sIdx ps = some x → ExtOk P f ps x := by
  intro ps x h
  unfold sIdx at h
  split at h
  case h_2 => cases h
  rename_i s c
  cases h
  refine ⟨fn, _, hf, h1, h2, h3, h4, fun pr w vs hl hr => ?_⟩
  match vs, hl with
  | [a, b], _ =>
    have ha := hr 0 _ a rfl rfl
    have hb := hr 1 _ b rfl rfl
    cases ha
    cases hb
    exact ⟨_, Lib.run_indexByteString _ _ w, .int _ _⟩
theorem idx_at : ∀ ps x, sIdx ps = some x → ExtOk Tryz.prog 203 ps x := by
  obtain ⟨fn, hfn⟩ : ∃ fn, Tryz.prog.funcs[203]? = some fn := ⟨_, rfl⟩
  refine idx_ext hfn ?_ ?_ ?_ ?_ <;> (cases hfn; kernel_rfl)
theorem sIdx_at (s : List UInt8) (c : UInt8) : sIdx [.str s, .int .u8 (c.toNat : Int)] = some (.int .i64 (Lib.indexByte s c)) := by
  have : ((c.toNat : Int).toNat).toUInt8 = c := by simp
  simp only [sIdx, this]
def Tib : Tab := Tab.none.ext 203 sIdx
theorem Tib_ok : TabOk Tryz.prog base Tib := Tab.ext_ok Tab.none_ok idx_at
theorem Tib_mu (f : FuncId) (a : List AVal) (H : Heap) : Tib.mu f a H = none := (rfl)
theorem Tib_ex : Tib.ex 203 = sIdx := (rfl)
theorem indexByte_ok : FnOk Tryz.prog base 185 (pureS sIdx) := by
  refine pure_of_vc hmix Tib_ok globNone low185 fun args z hs hf => ?_
  have hs' := hs
  unfold sIdx at hs
  split at hs
  case h_2 => cases hs
  rename_i s c
  refine ⟨by simp [lf185], ?_⟩
  simp [lf185, hs', Tib_mu, Tib_ex]
def sIndex1 : List PVal → Option PVal
  | [.str s, .str [c]] => some (.int .i64 (Lib.indexByte s c))
  | _ => none
def Tix : Tab := Tab.none.with 185 (pureS sIdx)
theorem Tix_ok : TabOk Tryz.prog base Tix := Tab.with_ok Tab.none_ok indexByte_ok
theorem Tix_mu (f : FuncId) (a : List AVal) (H : Heap) : Tix.mu f a H = none := (rfl)
theorem Tix_fn : Tix.fn 185 = pureS sIdx := (rfl)
theorem index_ok : FnOk Tryz.prog base 169 (pureS sIndex1) := by
  refine pure_of_vc hmix Tix_ok globNone low169 fun args z hs hf => ?_
  unfold sIndex1 at hs
  split at hs
  case h_2 => cases hs
  rename_i s c
  cases hs
  refine ⟨by simp [lf169], ?_⟩
  have h1 := sIdx_at s c
  by_cases hq : [c] = s
  · subst hq
    have hv : Lib.indexByte [c] c = 0 := by simp [Lib.indexByte]
    simp [lf169, binS, hv, Tix_mu, Tix_fn]
  · obtain ⟨k, hk⟩ : ∃ k, k = Lib.indexByte s c := ⟨_, rfl⟩
    rw [← hk] at h1 ⊢
    have hqb : ([c] == s) = false := beq_false_of_ne hq
    simp [lf169, binS, hq, hqb, h1, Tix_mu, Tix_fn]
def sCutS : List PVal → Option PVal
  | [.str s, .str [c]] => some (.tup [.str (cutU c s), .str (cutD c s), .bool (cutB c s)])
  | _ => none
def Tc2 : Tab := Tab.none.with 169 (pureS sIndex1)
theorem Tc2_ok : TabOk Tryz.prog base Tc2 := Tab.with_ok Tab.none_ok index_ok
theorem Tc2_mu (f : FuncId) (a : List AVal) (H : Heap) : Tc2.mu f a H = none := (rfl)
theorem Tc2_fn : Tc2.fn 169 = pureS sIndex1 := (rfl)
theorem lcut_ok : FnOk Tryz.prog base 137 (pureS sCutS) := by
  refine pure_of_vc hmix Tc2_ok globNone low137 fun args z hs hf => ?_
  unfold sCutS at hs
  split at hs
  case h_2 => cases hs
  rename_i s c
  cases hs
  refine ⟨by simp [lf137], ?_⟩
  have hlen := (hf (.str s) (by simp)).str
  unfold maxLen at hlen
  have h1 : sIndex1 [.str s, .str [c]] = some (.int .i64 (Lib.indexByte s c)) := rfl
  rcases idx_spec c s with ⟨e1, e2, e3, e4⟩ | ⟨e1, e2, e3, e4, e5⟩
  · rw [e2] at h1
    rw [e1, e3, e4]
    simp [lf137, h1, Tc2_mu, Tc2_fn]
  · rw [e2] at h1
    rw [e1]
    obtain ⟨k, hk⟩ : ∃ k, k = (cutU c s).length := ⟨_, rfl⟩
    rw [← hk] at h1 e3 e4 e5
    have hw := wrap_succ (i := k) (by omega)
    have l1 : (k : Int) ≤ s.length := by omega
    have l2 : ((k + 1 : Nat) : Int) ≤ s.length := by omega
    have l3 : (k : Int) + 1 ≤ s.length := by omega
    have l4 : (0 : Int) ≤ (k : Int) + 1 := by omega
    simp [lf137, h1, hw, l1, l2, l3, l4, e4, e5, Tc2_mu, Tc2_fn]
def Tc3 : Tab := Tab.none.with 137 (pureS sCutS)
theorem Tc3_ok : TabOk Tryz.prog base Tc3 := Tab.with_ok Tab.none_ok lcut_ok
theorem Tc3_mu (f : FuncId) (a : List AVal) (H : Heap) : Tc3.mu f a H = none := (rfl)
theorem Tc3_fn : Tc3.fn 137 = pureS sCutS := (rfl)
theorem scut_ok : FnOk Tryz.prog base 81 (pureS sCutS) := by
  refine pure_of_vc hmix Tc3_ok globNone low81 fun args z hs hf => ?_
  unfold sCutS at hs
  split at hs
  case h_2 => cases hs
  rename_i s c
  cases hs
  refine ⟨by simp [lf81], ?_⟩
  have h1 : sCutS [.str s, .str [c]] = some (.tup [.str (cutU c s), .str (cutD c s), .bool (cutB c s)]) := rfl
  simp [lf81, h1, Tc3_mu, Tc3_fn]
/-! ### Noughts at the end, at both ends -/
def trimR0 (s : List UInt8) : List UInt8 := (s.reverse.dropWhile (· == 48)).reverse
theorem trimR0_snoc (s : List UInt8) (c : UInt8) : trimR0 (s ++ [c]) = if c = 48 then trimR0 s else s ++ [c] := by
  unfold trimR0
  rw [List.reverse_append, List.reverse_singleton, List.singleton_append, List.dropWhile_cons]
  by_cases h : c = 48
  · simp [h]
  · simp [h]
def sTRB : List PVal → Option PVal
  | [.str s, .int .u8 b] => if b = 48 then some (.str (trimR0 s)) else none
  | _ => none
theorem trb_ok : FnOk Tryz.prog base 138 (pureS sTRB) := by
  refine pure_of_vc hmix Tab.none_ok globNone low138 fun args z hs hf => ?_
  unfold sTRB at hs
  split at hs
  case h_2 => cases hs
  rename_i s b
  split at hs
  case isFalse => cases hs
  rename_i hb
  subst hb
  cases hs
  have hlen := (hf (.str s) (by simp)).str
  unfold maxLen at hlen
  refine ⟨by simp [lf138], ?_⟩
  simp [lf138]
  simp only [lf138_B0, vc_block]
  refine loop_ind (fun fr H2 => ∃ z : List UInt8, H2 = [] ∧ z.length ≤ s.length ∧ trimR0 z = trimR0 s ∧ fr 0 = .p (.str z) ∧ fr 1 = .p (.int .u8 48)) (fun fr _ => match fr 0 with | .p (.str z) => z.length | _ => 0) ⟨s, rfl, Nat.le_refl _, rfl, by simp, by simp⟩ ?_
  rintro fr H2 ⟨z, rfl, hz, hd, h0, h1⟩
  rcases List.eq_nil_or_concat z with rfl | ⟨z, c, rfl⟩
  · have : trimR0 [] = [] := rfl
    rw [this] at hd
    simp [h0, retQ, ← hd]
  · rw [List.concat_eq_append] at *
    simp only [List.length_append, List.length_cons, List.length_nil] at hz
    have hl : (0 : Int) < (z.length : Int) + 1 := by omega
    have hw : IntKind.i64.wrap (z.length : Int) = (z.length : Int) := IntWalk.i64_in _ (by omega)
    have hl1 : (z.length : Int) ≤ (z.length : Int) + 1 := by omega
    rw [trimR0_snoc] at hd
    by_cases hcd : c = 48
    · subst hcd
      rw [if_pos rfl] at hd
      have h48 : (UInt8.toNat 48 : Int) = 48 := rfl
      simp [h0, h1, hl, hl1, hw, h48]
      exact ⟨by omega, hd⟩
    · have hci : ((c.toNat : Int) == 48) = false := beq_false_of_ne (fun e => hcd (UInt8.toNat_inj.1 (by rw [show UInt8.toNat 48 = 48 from rfl]; omega)))
      rw [if_neg hcd] at hd
      have hd' : trimR0 s = z ++ [c] := hd.symm
      simp [h0, h1, hl, hw, hci, retQ, hd']
def Ttr2 : Tab := (Tab.none.with 138 (pureS sTRB)).with 155 (pureS sTLB)
theorem Ttr2_ok : TabOk Tryz.prog base Ttr2 := Tab.with_ok (Tab.with_ok Tab.none_ok trb_ok) tlb_ok
theorem Ttr2_mu (f : FuncId) (a : List AVal) (H : Heap) : Ttr2.mu f a H = none := (rfl)
theorem Ttr2_fns : Ttr2.fn 138 = pureS sTRB ∧ Ttr2.fn 155 = pureS sTLB := ⟨rfl, rfl⟩
def trim0 (s : List UInt8) : List UInt8 := (trimR0 s).dropWhile (· == 48)
def sTrim0 : List PVal → Option PVal
  | [.str s, .str c] => if c = [48] then some (.str (trim0 s)) else none
  | _ => none
theorem sTrim0_at (s : List UInt8) : sTrim0 [.str s, .str [48]] = some (.str (trim0 s)) := by simp only [sTrim0, if_true]
theorem trim0_ok : FnOk Tryz.prog base 116 (pureS sTrim0) := by
  refine pure_of_vc hmix Ttr2_ok globNone low116 fun args z hs hf => ?_
  unfold sTrim0 at hs
  split at hs
  case h_2 => cases hs
  rename_i s c
  split at hs
  case isFalse => cases hs
  rename_i hc
  subst hc
  cases hs
  refine ⟨by simp [lf116], ?_⟩
  have h1 : sTRB [.str s, .int .u8 48] = some (.str (trimR0 s)) := by simp only [sTRB, if_true]
  have h2 : sTLB [.str (trimR0 s), .int .u8 48] = some (.str (trim0 s)) := by simp only [sTLB, if_true, trim0]
  by_cases hz : s = []
  · subst hz
    have : trim0 [] = [] := rfl
    simp [lf116, binS, this]
  · have he : s.isEmpty = false := by simpa using hz
    simp [lf116, binS, hz, he, h1, h2, Ttr2_mu, Ttr2_fns]
theorem dropW_nil {p : UInt8 → Bool} : ∀ {l : List UInt8}, l.dropWhile p = [] ↔ l.all p = true
  | [] => by simp
  | x :: r => by
    rw [List.dropWhile_cons]
    cases h : p x with
    | true => simp [h, dropW_nil (l := r)]
    | false => simp [h]
theorem trim0_nil (s : List UInt8) : (trim0 s = []) ↔ s.all (· == 48) = true := by
  unfold trim0 trimR0
  rw [dropW_nil, List.all_reverse]
  constructor
  · intro h
    have h2 := List.takeWhile_append_dropWhile (p := (· == (48 : UInt8))) (l := s.reverse)
    have h3 : s.reverse.all (· == 48) = true := by
      rw [← h2, List.all_append, h, Bool.and_true]
      exact List.all_takeWhile
    rwa [List.all_reverse] at h3
  · intro h
    have h3 : s.reverse.all (· == 48) = true := by rwa [List.all_reverse]
    rw [dropW_nil.2 h3]
    rfl
end Go.Proofs.YtoechbpjfkabmaaGreatDoor

/-
  rat.Parse.
-/
namespace Go.Proofs.YtoechbpjfkabmaaGreatDoor
open Go Go.Abs Go.Limbs
variable {base : Prot}
set_option maxRecDepth 20000
attribute [local irreducible] vc
attribute [local simp] pureS touchV freezeL fuel shiftV u64 au
theorem cut_sign (s : List UInt8) : sCut [.str s, .str [45]] = some (.tup [.str (digsL s), .bool (signL s)]) := by
  match s with
  | [] => simp [sCut, digsL, signL]
  | c :: r =>
    by_cases h : c = 45
    · simp [sCut, digsL, signL, h]
    · simp [sCut, digsL, signL, h]
theorem numD_ne : ∀ {s : List UInt8}, s.all isD = true → s.all (· == 48) = false → numD 0 s ≠ 0
  | [], _, h => by cases h
  | c :: r, h1, h2 => by
    simp only [List.all_cons, Bool.and_eq_true] at h1
    have e : numD 0 (c :: r) = (c.toNat - 48) * 10 ^ r.length + numD 0 r := by
      show numD (0 * 10 + (c.toNat - 48)) r = _
      rw [numD_acc, Nat.zero_mul, Nat.zero_add]
    rw [e]
    by_cases hc : c = 48
    · have hr : r.all (· == 48) = false := by
        rw [List.all_cons, hc] at h2
        simpa using h2
      have := numD_ne h1.2 hr
      omega
    · have hD := h1.1
      unfold isD at hD
      simp only [decide_eq_true_eq] at hD
      have : c.toNat ≠ 48 := fun e => hc (UInt8.toNat_inj.1 (by rw [show UInt8.toNat 48 = 48 from rfl]; exact e))
      have h3 : 1 * 10 ^ r.length ≤ (c.toNat - 48) * 10 ^ r.length := Nat.mul_le_mul_right _ (by omega)
      have h4 : 0 < 10 ^ r.length := Nat.pow_pos (by decide)
      omega
theorem parseL_case (s : List UInt8) (hd : digS s = true) : ((parseL s).2 = 0 ∧ len (numD 0 s) ≤ 64 ∧ (parseL s).1 = limbs (numD 0 s)) ∨ ((parseL s).2 ≠ 0) := by
  unfold parseL
  rw [hd, if_pos rfl]
  split
  · right; simp
  · unfold heldL
    split
    · rename_i h; left; exact ⟨rfl, h, rfl⟩
    · right; simp
theorem digS_all {s : List UInt8} (h : digS s = true) : s.all isD = true := by
  unfold digS at h
  simp only [Bool.and_eq_true] at h
  exact h.2
theorem cutU_len (c : UInt8) (s : List UInt8) : (cutU c s).length ≤ s.length := (List.takeWhile_sublist _).length_le
theorem cutD_len (c : UInt8) (s : List UInt8) : (cutD c s).length ≤ s.length := by
  unfold cutD
  have := (List.dropWhile_sublist (p := (· != c)) (l := s)).length_le
  simp
  omega
theorem digsL_len (s : List UInt8) : (digsL s).length ≤ s.length := by
  unfold digsL
  split
  · split <;> simp
  · simp
def Tqz : Tab := (((((Tab.none.with 81 (pureS sCutS)).with 76 (pureS sCut)).with 83 (pureS sDig)).with 116 (pureS sTrim0)).with 77 (pureS sParse)).with 85 (pureS sLow)
theorem Tqz_ok : TabOk Tryz.prog base Tqz := Tab.with_ok (Tab.with_ok (Tab.with_ok (Tab.with_ok (Tab.with_ok (Tab.with_ok Tab.none_ok scut_ok) cut_ok) digits_ok) trim0_ok) parse_nat_ok) qlow_ok
theorem Tqz_mu (f : FuncId) (a : List AVal) (H : Heap) : Tqz.mu f a H = none := (rfl)
theorem Tqz_fns : Tqz.fn 81 = pureS sCutS ∧ Tqz.fn 76 = pureS sCut ∧ Tqz.fn 83 = pureS sDig ∧ Tqz.fn 116 = pureS sTrim0 ∧ Tqz.fn 77 = pureS sParse ∧ Tqz.fn 85 = pureS sLow := ⟨rfl, rfl, rfl, rfl, rfl, rfl⟩
theorem qparse_ok : FnOk Tryz.prog base 55 (pureS sQParse) := by
  refine pure_of_vc hmix Tqz_ok globNone low55 fun args z hs hf => ?_
  unfold sQParse at hs
  split at hs
  case h_2 => cases hs
  rename_i s
  split at hs
  case isFalse => cases hs
  rename_i hl
  cases hs
  refine ⟨by simp [lf55], ?_⟩
  have e1 : sCutS [.str s, .str [47]] = some (.tup [.str (cutU 47 s), .str (cutD 47 s), .bool (cutB 47 s)]) := rfl
  have lU := cutU_len 47 s
  have lD := cutD_len 47 s
  have key : parseQ s = if digS (digsL (cutU 47 s)) && digS (if cutB 47 s then cutD 47 s else [49]) && !((if cutB 47 s then cutD 47 s else [49]).all (· == 48)) then lowF (signL (cutU 47 s)) (parseL (digsL (cutU 47 s))) (parseL (if cutB 47 s then cutD 47 s else [49])) else (zF, 2) := rfl
  rw [key]
  obtain ⟨U, hU⟩ : ∃ u, u = cutU 47 s := ⟨_, rfl⟩
  obtain ⟨D, hD⟩ : ∃ u, u = cutD 47 s := ⟨_, rfl⟩
  obtain ⟨b, hb⟩ : ∃ u, u = cutB 47 s := ⟨_, rfl⟩
  rw [← hU] at lU
  rw [← hD] at lD
  rw [← hU, ← hD, ← hb] at e1 ⊢
  have e2 := cut_sign U
  have lG := digsL_len U
  obtain ⟨G, hG⟩ : ∃ u, u = digsL U := ⟨_, rfl⟩
  obtain ⟨n, hn⟩ : ∃ u, u = signL U := ⟨_, rfl⟩
  rw [← hG] at lG
  rw [← hG, ← hn] at e2 ⊢
  have d1 := sDig_at G
  have p1 := sParse_at (s := G) (by omega)
  cases hg : digS G with
  | false =>
    rw [hg] at d1
    simp [lf55, e1, e2, d1, pairF, zF, Fr.enc, fillS, Tqz_mu, Tqz_fns]
  | true =>
  rw [hg] at d1
  -- what stands below, once it is known to be one
  have fin : ∀ W : List UInt8, W.length ≤ 80000 → digS W = true → W.all (· == 48) = false → ∃ P1 P2 : List PVal, ∃ k1 k2 : Int, sParse [.str G] = some (.tup [.lst P1, .int .i64 k1]) ∧ sParse [.str W] = some (.tup [.lst P2, .int .i64 k2]) ∧
      (((k1 = 0 ∧ k2 = 0) ∧ sLow [.bool n, .lst P1, .lst P2] = some (pairF (lowF n (parseL G) (parseL W)))) ∨ ((k1 ≠ 0 ∨ k2 ≠ 0) ∧ lowF n (parseL G) (parseL W) = (zF, 4))) := by
    intro W hW hdW hzW
    have p2 := sParse_at (s := W) (by omega)
    simp only [pairP, lstP] at p1 p2
    refine ⟨_, _, _, _, p1, p2, ?_⟩
    rcases parseL_case G hg with ⟨g1, g2, g3⟩ | g1
    · rcases parseL_case W hdW with ⟨w1, w2, w3⟩ | w1
      · left
        refine ⟨⟨by rw [g1]; rfl, by rw [w1]; rfl⟩, ?_⟩
        have h0 : numD 0 W ≠ 0 := numD_ne (digS_all hdW) hzW
        unfold lowF
        rw [if_pos ⟨g1, w1⟩, g3, w3, val_limbs, val_limbs]
        exact sLow_num n (by omega) (by omega) h0
      · right
        refine ⟨.inr (by omega), ?_⟩
        unfold lowF
        rw [if_neg (fun h => w1 h.2)]
    · right
      refine ⟨.inl (by omega), ?_⟩
      unfold lowF
      rw [if_neg (fun h => g1 h.1)]
  cases b with
  | false =>
    simp only [Bool.false_eq_true, if_false]
    have hd1 : digS [49] = true := by decide
    have hz1 : [(49 : UInt8)].all (· == 48) = false := by decide
    rw [hd1, hz1]
    obtain ⟨P1, P2, k1, k2, q1, q2, hq⟩ := fin [49] (by decide) hd1 hz1
    rcases hq with ⟨⟨h1, h2⟩, h3⟩ | ⟨h1, h3⟩
    · obtain ⟨R, hR⟩ : ∃ R, R = lowF n (parseL G) (parseL [49]) := ⟨_, rfl⟩
      rw [← hR] at h3 ⊢
      simp only [pairF, Fr.enc] at h3 ⊢
      simp [lf55, e1, e2, d1, q1, q2, h1, h2, h3, pairF, zF, Fr.enc, fillS, Tqz_mu, Tqz_fns]
    · rw [h3]
      by_cases hk : k1 = 0
      · have hk2 : k2 ≠ 0 := by rcases h1 with h | h; exact absurd hk h; exact h
        have hkb : (k2 != 0) = true := bne_iff_ne.2 hk2
        simp [lf55, e1, e2, d1, q1, q2, hk, hk2, hkb, pairF, zF, Fr.enc, fillS, Tqz_mu, Tqz_fns]
      · have hkb : (k1 != 0) = true := bne_iff_ne.2 hk
        simp [lf55, e1, e2, d1, q1, q2, hk, hkb, pairF, zF, Fr.enc, fillS, Tqz_mu, Tqz_fns]
  | true =>
    simp only [if_true]
    have d2 := sDig_at D
    have t2 := sTrim0_at D
    have tn := trim0_nil D
    cases hdD : digS D with
    | false =>
      rw [hdD] at d2
      simp [lf55, e1, e2, d1, d2, pairF, zF, Fr.enc, fillS, Tqz_mu, Tqz_fns]
    | true =>
      rw [hdD] at d2
      cases hzD : D.all (· == 48) with
      | true =>
        have : trim0 D = [] := tn.2 hzD
        rw [this] at t2
        simp [lf55, e1, e2, d1, d2, t2, binS, pairF, zF, Fr.enc, fillS, Tqz_mu, Tqz_fns]
      | false =>
        have hne : trim0 D ≠ [] := fun h => by rw [tn.1 h] at hzD; cases hzD
        obtain ⟨V, hV⟩ : ∃ V, V = trim0 D := ⟨_, rfl⟩
        rw [← hV] at t2 hne
        have hVe : V.isEmpty = false := by simpa using hne
        obtain ⟨P1, P2, k1, k2, q1, q2, hq⟩ := fin D (by omega) hdD hzD
        rcases hq with ⟨⟨h1, h2⟩, h3⟩ | ⟨h1, h3⟩
        · obtain ⟨R, hR⟩ : ∃ R, R = lowF n (parseL G) (parseL D) := ⟨_, rfl⟩
          rw [← hR] at h3 ⊢
          simp only [pairF, Fr.enc] at h3 ⊢
          simp [lf55, e1, e2, d1, d2, t2, hne, hVe, q1, q2, h1, h2, h3, binS, pairF, zF, Fr.enc, fillS, Tqz_mu, Tqz_fns]
        · rw [h3]
          by_cases hk : k1 = 0
          · have hk2 : k2 ≠ 0 := by rcases h1 with h | h; exact absurd hk h; exact h
            have hkb : (k2 != 0) = true := bne_iff_ne.2 hk2
            simp [lf55, e1, e2, d1, d2, t2, hne, hVe, q1, q2, hk, hk2, hkb, binS, pairF, zF, Fr.enc, fillS, Tqz_mu, Tqz_fns]
          · have hkb : (k1 != 0) = true := bne_iff_ne.2 hk
            simp [lf55, e1, e2, d1, d2, t2, hne, hVe, q1, q2, hk, hkb, binS, pairF, zF, Fr.enc, fillS, Tqz_mu, Tqz_fns]
end Go.Proofs.YtoechbpjfkabmaaGreatDoor
