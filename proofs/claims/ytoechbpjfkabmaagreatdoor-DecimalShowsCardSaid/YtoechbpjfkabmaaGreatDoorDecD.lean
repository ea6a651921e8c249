/-
  law4's awake; the reference's texts of whole numbers; DecimalShows answers true on all values. No conditions.
-/
import Derived.Test.YtoechbpjfkabmaaGreatDoorDecC
import Derived.Test.YtoechbpjfkabmaaGreatDoorDecA
import Derived.Test.YtoechbpjfkabmaaGreatDoorRatM
import Derived.Test.YtoechbpjfkabmaaGreatDoorRatG
import Derived.Test.YtoechbpjfkabmaaGreatDoorNatTA
set_option linter.unusedSimpArgs false
set_option linter.unusedVariables false
set_option linter.constructorNameAsVariable false

/-
  law4's awake.
-/
namespace Go.Proofs.YtoechbpjfkabmaaGreatDoor
open Go Go.Abs Go.Limbs
variable {base : Prot}
set_option maxRecDepth 20000
attribute [local irreducible] vc
attribute [local simp] pureS touchV freezeL fuel shiftV u64 au
theorem exactP_at {q : Rat} {t : List UInt8} {b : Bool} (h : exactF (ofQ q) = (t, b)) : f1 exactP [(ofQ q).enc] = some (.tup [.str t, .bool b]) := by
  rw [f1_at (wf_ofQ q)]
  unfold exactP
  rw [h]
theorem exactF_num {q : Rat} (h : Sm 64 q) : exactF (ofQ q) = if q.num < 0 then ([], false) else if plainN q.den then (exactT q.num.natAbs q.den, true) else ([], false) := by
  have ed : val (ofQ q).d = q.den := val_limbs _
  have en : val (ofQ q).n = q.num.natAbs := val_limbs _
  unfold exactF
  rw [ok_ofQ h, ed, en]
  by_cases h0 : q.num < 0
  · have hs : (ofQ q).s = true := decide_eq_true h0
    rw [hs, if_pos h0]
    rfl
  · have hs : (ofQ q).s = false := decide_eq_false h0
    rw [hs, if_neg h0]
    cases plainN q.den <;> rfl
theorem showF_at {q : Rat} (h : Sm 64 q) : f1 showF [(ofQ q).enc] = some (.str (showQ q)) := by
  rw [f1_at (wf_ofQ q)]
  unfold showF
  rw [ok_ofQ h, if_pos rfl, q_ofQ]
theorem x_18 : exactF (ofQ (Rat.divInt 1 8)) = ([48, 46, 49, 50, 53], true) := by
  rw [exactF_num (dS _ _ (by decide) (by decide)), show (Rat.divInt 1 8).num = 1 from by decide +kernel, show (Rat.divInt 1 8).den = 8 from by decide +kernel]
  rw [if_neg (by decide), if_pos (by decide)]
  unfold exactT
  rw [show Int.natAbs 1 = 1 from rfl, show 1 / 8 = 0 from rfl, show 1 % 8 = 1 from rfl, if_neg (by decide), dec_one (by decide)]
  have e1 : expand 8 (4095 + 1) 1 = digit 1 :: expand 8 (4094 + 1) 2 := expand_step (by decide)
  have e2 : expand 8 (4094 + 1) 2 = digit 2 :: expand 8 (4093 + 1) 4 := expand_step (by decide)
  have e3 : expand 8 (4093 + 1) 4 = digit 5 :: expand 8 4093 0 := expand_step (by decide)
  rw [show (4096 : Nat) = 4095 + 1 from rfl, e1, e2, e3, expand_zero]
  decide
theorem x_13 : exactF (ofQ (Rat.divInt 1 3)) = ([], false) := by
  rw [exactF_num (dS _ _ (by decide) (by decide)), show (Rat.divInt 1 3).num = 1 from by decide +kernel, show (Rat.divInt 1 3).den = 3 from by decide +kernel]
  rw [if_neg (by decide), if_neg (by decide)]
theorem w_13 : showQ (Rat.divInt (-1) 3) = [40, 45, 32, 40, 47, 32, 49, 46, 48, 32, 51, 46, 48, 41, 41] := by
  unfold showQ showN
  rw [show (Rat.divInt (-1) 3).num = -1 from by decide +kernel, show (Rat.divInt (-1) 3).den = 3 from by decide +kernel]
  rw [if_pos (by decide), if_neg (by decide), show Int.natAbs (-1) = 1 from rfl, dec_one (by decide), dec_one (by decide)]
  decide
theorem w_5 : showQ (Rat.divInt 5 1) = [53, 46, 48] := by
  unfold showQ showN
  rw [show (Rat.divInt 5 1).num = 5 from by decide +kernel, show (Rat.divInt 5 1).den = 1 from by decide +kernel]
  rw [if_neg (by decide), if_pos (by decide), show Int.natAbs 5 = 5 from rfl, dec_one (by decide)]
  decide
theorem d_125 : parseD [48, 46, 49, 50, 53] = (ofQ (Rat.divInt 1 8), 0) := by
  have e1 : cutU 46 [48, 46, 49, 50, 53] = [48] := by decide
  have e2 : cutD 46 [48, 46, 49, 50, 53] = [49, 50, 53] := by decide
  have e3 : trimR0 [49, 50, 53] = [49, 50, 53] := by decide
  unfold parseD
  rw [e1, e2, e3, if_pos (by decide), if_pos (by decide)]
  have : fracS [48] [49, 50, 53] = Rat.divInt 1 8 := by
    unfold fracS
    rw [show numD 0 ([48] ++ [49, 50, 53]) = 125 from by decide]
    decide +kernel
  rw [this]
  exact heldQ_ok (dS _ _ (by decide) (by decide))
theorem d_01 : parseD [48, 49] = (zF, 2) := by
  unfold parseD
  rw [if_neg (by decide)]
theorem d_1p : parseD [49, 46] = (zF, 2) := by
  unfold parseD
  rw [if_neg (by decide)]
def sAwake4 : List PVal → Option PVal
  | [] => some (.bool true)
  | _ => none
theorem sAwake4_nil : sAwake4 [] = some (.bool true) := rfl
def Tl4a : Tab := ((((Tab.none.with 33 (pureS sQOf)).with 30 (pureS (f2 sameP))).with 26 (pureS sDParse)).with 28 (pureS (f1 exactP))).with 31 (pureS (f1 showF))
theorem Tl4a_ok : TabOk Tryz.prog base2 Tl4a := Tab.with_ok (Tab.with_ok (Tab.with_ok (Tab.with_ok (Tab.with_ok Tab.none_ok rofR_ok) rsame_ok) dparse_ok) dexact_ok) dshow_ok
theorem Tl4a_mu (f : FuncId) (a : List AVal) (H : Heap) : Tl4a.mu f a H = none := (rfl)
theorem Tl4a_fns : Tl4a.fn 33 = pureS sQOf ∧ Tl4a.fn 30 = pureS (f2 sameP) ∧ Tl4a.fn 26 = pureS sDParse ∧ Tl4a.fn 28 = pureS (f1 exactP) ∧ Tl4a.fn 31 = pureS (f1 showF) := ⟨rfl, rfl, rfl, rfl, rfl⟩
theorem awake4_ok : FnOk Tryz.prog base2 25 (pureS sAwake4) := by
  refine pure_of_vc hmix Tl4a_ok globNone low25 fun args z hs hf => ?_
  unfold sAwake4 at hs
  split at hs
  case h_2 => cases hs
  cases hs
  refine ⟨by simp [lf25], ?_⟩
  have o18 := dO 1 8 (by decide)
  have o13 := dO 1 3 (by decide)
  have om13 := dO (-1) 3 (by decide)
  have o51 := dO 5 1 (by decide)
  have p1 := sDParse_at (s := [48, 46, 49, 50, 53]) (by decide)
  rw [d_125] at p1
  have p2 := sDParse_at (s := [48, 49]) (by decide)
  rw [d_01] at p2
  have p3 := sDParse_at (s := [49, 46]) (by decide)
  rw [d_1p] at p3
  have X1 := exactP_at x_18
  have X2 := exactP_at x_13
  have W1 := showF_at (dS (-1) 3 (by decide) (by decide) : Sm 64 _)
  rw [w_13] at W1
  have W2 := showF_at (dS 5 1 (by decide) (by decide) : Sm 64 _)
  rw [w_5] at W2
  have S1 := sameP_self (Rat.divInt 1 8)
  obtain ⟨x18, e18⟩ : ∃ x, x = ofQ (Rat.divInt 1 8) := ⟨_, rfl⟩
  obtain ⟨x13, e13⟩ : ∃ x, x = ofQ (Rat.divInt 1 3) := ⟨_, rfl⟩
  obtain ⟨xm13, em13⟩ : ∃ x, x = ofQ (Rat.divInt (-1) 3) := ⟨_, rfl⟩
  obtain ⟨x51, e51⟩ : ∃ x, x = ofQ (Rat.divInt 5 1) := ⟨_, rfl⟩
  simp only [← e18, ← e13, ← em13, ← e51] at o18 o13 om13 o51 p1 X1 X2 W1 W2 S1
  simp only [pairF, zF, Fr.enc, List.map_nil] at o18 o13 om13 o51 p1 p2 p3 X1 X2 W1 W2 S1
  clear e18 e13 em13 e51
  simp [lf25, o18, o13, om13, o51, p1, p2, p3, X1, X2, W1, W2, S1, binS, fillS, Tl4a_mu, Tl4a_fns]
end Go.Proofs.YtoechbpjfkabmaaGreatDoor

/-
  The reference's texts of whole numbers; DecimalShows answers true.
-/
namespace Go.Proofs.YtoechbpjfkabmaaGreatDoor
open Go Go.Abs Go.Limbs
variable {base : Prot}
set_option maxRecDepth 20000
attribute [local irreducible] vc
attribute [local simp] pureS touchV freezeL fuel shiftV u64 au
def Trti : Tab := (Tab.none.with 104 (pureS sIV)).with 100 (pureS sText)
theorem Trti_ok : TabOk Tryz.prog base Trti := Tab.with_ok (Tab.with_ok Tab.none_ok rivalid_ok) rtext_ok
theorem Trti_mu (f : FuncId) (a : List AVal) (H : Heap) : Trti.mu f a H = none := (rfl)
theorem Trti_fns : Trti.fn 104 = pureS sIV ∧ Trti.fn 100 = pureS sText := ⟨rfl, rfl⟩
theorem rtexti_ok : FnOk Tryz.prog base 37 (pureS sIText) := by
  refine pure_of_vc hmix Trti_ok globNone low37 fun args z hs hf => ?_
  unfold sIText at hs
  split at hs
  case h_2 => cases hs
  rename_i s xs
  split at hs
  case h_2 => cases hs
  rename_i a ha
  obtain ⟨rfl, wa⟩ := decU_some ha
  cases hs
  refine ⟨by simp [lf37], ?_⟩
  have va := sIV_list (s := s) wa
  unfold textI
  cases oa : okI s a with
  | false => rw [oa] at va; simp [lf37, va, Trti_mu, Trti_fns]
  | true =>
    rw [oa] at va
    obtain ⟨z, hz, rfl, rfl⟩ := okI_of oa
    have t := sText_num (a := z.natAbs) hz
    rw [val_limbs]
    have L := dec_1280 (n := z.natAbs) hz
    obtain ⟨A, hA⟩ : ∃ t, t = Lib.decDigits z.natAbs := ⟨_, rfl⟩
    obtain ⟨Lz, hLz⟩ : ∃ t, t = limbs z.natAbs := ⟨_, rfl⟩
    rw [← hA] at t L ⊢
    rw [← hLz] at va t ⊢
    have m1 : 1 + A.length ≤ maxLen := by unfold maxLen; omega
    obtain ⟨s, hs⟩ : ∃ s, s = decide (z < 0) := ⟨_, rfl⟩
    rw [← hs] at va ⊢
    cases s <;> simp [lf37, va, t, binS, m1, Trti_mu, Trti_fns]
/-! ### The greatest divisor, by hand -/
def natOf (v : AVal) : Nat := match v with
  | .p (.int _ z) => z.toNat
  | _ => 0
theorem gcd_loop {T : Tab} {g m : Nat} {H : Heap} {Q : LExit → AFr → Heap → Prop} {fr : AFr} (h6 : fr 6 = .p (.int .i64 (g : Int))) (h8 : fr 8 = .p (.int .i64 (m : Int)))
    (hq : ∀ fr' : AFr, fr' 6 = .p (.int .i64 (Nat.gcd g m : Nat)) → fr' 0 = fr 0 → fr' 1 = fr 1 → fr' 4 = fr 4 → fr' 5 = fr 5 → fr' 7 = fr 7 → Q .normal fr' H) : vc T lf7_B0 Q fr H := by
  simp only [lf7_B0, vc_block]
  refine loop_ind (fun fr2 H2 => H2 = H ∧ fr2 0 = fr 0 ∧ fr2 1 = fr 1 ∧ fr2 4 = fr 4 ∧ fr2 5 = fr 5 ∧ fr2 7 = fr 7 ∧ ∃ a b : Nat, Nat.gcd a b = Nat.gcd g m ∧ fr2 6 = .p (.int .i64 (a : Int)) ∧ fr2 8 = .p (.int .i64 (b : Int))) (fun fr2 _ => natOf (fr2 8))
    ⟨rfl, rfl, rfl, rfl, rfl, rfl, g, m, rfl, h6, h8⟩ ?_
  rintro fr2 H2 ⟨rfl, g0, g1, g4, g5, g7, a, b, hg, g6, g8⟩
  by_cases hb : b = 0
  · subst hb
    rw [Nat.gcd_zero_right] at hg
    simp [g6, g8]
    exact hq _ (by simp [g6, hg]) (by simp [g0]) (by simp [g1]) (by simp [g4]) (by simp [g5]) (by simp [g7])
  · have hb0 : (0 : Int) < (b : Int) := by omega
    have hbn : (b : Int) ≠ 0 := by omega
    have hlt := Nat.mod_lt a (Nat.pos_of_ne_zero hb)
    have hgg : Nat.gcd b (a % b) = Nat.gcd g m := by rw [← hg, Nat.gcd_comm a b, Nat.gcd_rec b a, Nat.gcd_comm]
    have hp : 0 < b := by omega
    have ht : (a : Int).tmod (b : Int) = ((a % b : Nat) : Int) := by rw [Int.tmod_eq_emod_of_nonneg (by omega)]; rfl
    simp [g0, g1, g4, g5, g6, g7, g8, hp, hb]
    rw [ht]
    refine ⟨⟨b, a % b, hgg, rfl, rfl⟩, ?_⟩
    show ((a % b : Nat) : Int).toNat < ((b : Nat) : Int).toNat
    rw [Int.toNat_natCast, Int.toNat_natCast]
    exact hlt
def sLawNN : List PVal → Option PVal
  | [.int .i64 n, .int .i64 d] => if (-9223372036854775808 ≤ n ∧ n < 9223372036854775808) ∧ (-9223372036854775808 ≤ d ∧ d < 9223372036854775808) then some (.bool true) else none
  | _ => none
def Tds : Tab := ((Tl4a.with 25 (pureS sAwake4)).with 38 (pureS sIOf)).with 37 (pureS sIText)
theorem Tds_ok : TabOk Tryz.prog base2 Tds := Tab.with_ok (Tab.with_ok (Tab.with_ok Tl4a_ok awake4_ok) riof_ok) rtexti_ok
theorem Tds_mu (f : FuncId) (a : List AVal) (H : Heap) : Tds.mu f a H = none := (rfl)
theorem Tds_fns : Tds.fn 25 = pureS sAwake4 ∧ Tds.fn 38 = pureS sIOf ∧ Tds.fn 37 = pureS sIText ∧ Tds.fn 33 = pureS sQOf ∧ Tds.fn 30 = pureS (f2 sameP) ∧ Tds.fn 26 = pureS sDParse ∧ Tds.fn 28 = pureS (f1 exactP) ∧ Tds.fn 31 = pureS (f1 showF) := ⟨rfl, rfl, rfl, rfl, rfl, rfl, rfl, rfl⟩
theorem text_nat {k : Nat} (h : k < 9223372036854775808) : sIOf [.int .i64 (k : Int)] = some (iN (k : Int)) ∧ sIText [iN (k : Int)] = some (.str (Lib.decDigits k)) := by
  refine ⟨sIOf_at (by omega) (by omega), ?_⟩
  have hz : zl (k : Int) ≤ 64 := Nat.le_trans (zl_int (by omega) (by omega)) (by omega)
  rw [sIText_num hz]
  unfold textZ
  rw [if_neg (by omega), Int.natAbs_natCast]
theorem shows_ok : FnOk Tryz.prog base2 7 (pureS sLawNN) := by
  refine pure_of_vc hmix Tds_ok globNone low7 fun args z hs hf => ?_
  unfold sLawNN at hs
  split at hs
  case h_2 => cases hs
  rename_i n d
  split at hs
  case isFalse => cases hs
  rename_i hc
  obtain ⟨hn, hd⟩ := hc
  cases hs
  refine ⟨by simp [lf7], ?_⟩
  have aw := sAwake4_nil
  by_cases c1 : d < 1
  · simp [lf7, c1, aw, Tds_mu, Tds_fns]
  by_cases c2 : 1073741824 < d
  · simp [lf7, c1, c2, aw, Tds_mu, Tds_fns]
  by_cases c3 : n < -1099511627776
  · simp [lf7, c1, c2, c3, aw, Tds_mu, Tds_fns]
  by_cases c4 : 1099511627776 < n
  · simp [lf7, c1, c2, c3, c4, aw, Tds_mu, Tds_fns]
  obtain ⟨D, rfl⟩ : ∃ D : Nat, d = (D : Int) := ⟨d.toNat, by omega⟩
  have hD0 : D ≠ 0 := by omega
  have O := sQOf_at hn hd
  have hq : Rat.divInt n (D : Int) = mkRat (zOf (decide (n < 0)) n.natAbs) D := by rw [zOf_sign, Rat.divInt_ofNat]
  have e1 := mk_num (decide (n < 0)) n.natAbs hD0
  have e2 := mk_den (decide (n < 0)) n.natAbs hD0
  have hS : Sm 64 (Rat.divInt n (D : Int)) := Sm_divInt (Nat.le_trans (zl_int hn.1 hn.2) (by omega)) (Nat.le_trans (zl_int hd.1 hd.2) (by omega)) (by omega)
  rw [← hq] at e1 e2
  have W := showF_at hS
  unfold showQ at W
  rw [e1, e2, zOf_abs] at W
  obtain ⟨q, hqq⟩ : ∃ q, q = Rat.divInt n (D : Int) := ⟨_, rfl⟩
  rw [← hqq] at O W hS e1 e2
  have hif : (if n < -n then -n else n) = ((n.natAbs : Nat) : Int) := by split <;> omega
  have hwn : IntKind.i64.wrap (-n) = -n := IntWalk.i64_in _ (by omega)
  have hb : f1 showF [.agg [.bool (ofQ q).s, .lst ((ofQ q).n.map u64), .lst []]] = some (.str []) := by
    have h : f1 showF [(⟨(ofQ q).s, (ofQ q).n, []⟩ : Fr).enc] = some (showF ⟨(ofQ q).s, (ofQ q).n, []⟩) := f1_at ⟨(wf_ofQ q).1, Wf.nil⟩
    have h2 : (⟨(ofQ q).s, (ofQ q).n, []⟩ : Fr).ok = false := by unfold Fr.ok; simp [val_nil]
    unfold showF at h
    rw [h2] at h
    exact h
  simp only [Fr.enc] at O W
  simp [lf7, c1, c2, c3, c4, O, hwn, hif, Tds_mu, Tds_fns]
  refine gcd_loop (g := D) (m := n.natAbs) (by simp) (by simp) fun fr3 k6 k0 k1 k4 k5 k7 => ?_
  rw [Nat.gcd_comm] at k6
  have hG0 : 0 < Nat.gcd n.natAbs D := Nat.gcd_pos_of_pos_right _ (Nat.pos_of_ne_zero hD0)
  have hKpos : n < 0 → 0 < n.natAbs / Nat.gcd n.natAbs D := fun h => Nat.div_pos (Nat.gcd_le_left _ (by omega)) hG0
  have hDpos : 0 < D / Nat.gcd n.natAbs D := Nat.div_pos (Nat.gcd_le_right _ (by omega)) hG0
  have hKle := Nat.div_le_self n.natAbs (Nat.gcd n.natAbs D)
  have hDle := Nat.div_le_self D (Nat.gcd n.natAbs D)
  have t1 : ((n.natAbs : Nat) : Int).tdiv ((Nat.gcd n.natAbs D : Nat) : Int) = ((n.natAbs / Nat.gcd n.natAbs D : Nat) : Int) := by rw [Int.tdiv_eq_ediv_of_nonneg (by omega), Int.natCast_ediv]
  have t2 : ((D : Nat) : Int).tdiv ((Nat.gcd n.natAbs D : Nat) : Int) = ((D / Nat.gcd n.natAbs D : Nat) : Int) := by rw [Int.tdiv_eq_ediv_of_nonneg (by omega), Int.natCast_ediv]
  obtain ⟨G, hG⟩ : ∃ g, g = Nat.gcd n.natAbs D := ⟨_, rfl⟩
  rw [← hG] at k6 hG0 hKpos hDpos hKle hDle t1 t2 W
  obtain ⟨K, hK⟩ : ∃ k, k = n.natAbs / G := ⟨_, rfl⟩
  obtain ⟨E, hE⟩ : ∃ k, k = D / G := ⟨_, rfl⟩
  rw [← hK] at hKpos hKle t1 W
  rw [← hE] at hDpos hDle t2 W
  have w1 : IntKind.i64.wrap (K : Int) = (K : Int) := IntWalk.i64_in _ (by omega)
  have w2 : IntKind.i64.wrap (E : Int) = (E : Int) := IntWalk.i64_in _ (by omega)
  have hGn : (G : Int) ≠ 0 := by omega
  have hGz : ¬ G = 0 := by omega
  obtain ⟨o1, x1⟩ := text_nat (k := K) (by omega)
  obtain ⟨o2, x2⟩ := text_nat (k := E) (by omega)
  have L1 := dec_1280 (n := K) (Nat.le_trans (zl_int (n := (K : Int)) (by omega) (by omega)) (by omega))
  have L2 := dec_1280 (n := E) (Nat.le_trans (zl_int (n := (E : Int)) (by omega) (by omega)) (by omega))
  unfold showN at W
  obtain ⟨TK, hTK⟩ : ∃ t, t = Lib.decDigits K := ⟨_, rfl⟩
  obtain ⟨TE, hTE⟩ : ∃ t, t = Lib.decDigits E := ⟨_, rfl⟩
  rw [← hTK] at x1 L1 W
  rw [← hTE] at x2 L2 W
  have m1 : TK.length + 2 ≤ maxLen := by unfold maxLen; omega
  have m2 : 3 + (TK.length + 2) ≤ maxLen := by unfold maxLen; omega
  have m3 : TK.length + 2 + 1 + 1 + 1 + 1 ≤ maxLen := by unfold maxLen; omega
  have m4 : TK.length + 3 + 1 + 1 + 1 + TE.length ≤ maxLen := by unfold maxLen; omega
  have m6 : 3 + (TK.length + (TE.length + 3 + 1 + 1 + 1) + 1 + 1 + 1) ≤ maxLen := by unfold maxLen; omega
  have m7 : TK.length + (TE.length + 3 + 1 + 1 + 1) + 1 + 1 + 1 + 1 + 1 + 1 + 1 ≤ maxLen := by unfold maxLen; omega
  have m5 : TK.length + (TE.length + 1 + 1 + 1) + 1 + 1 + 1 + 3 ≤ maxLen := by unfold maxLen; omega
  have hsg : (zOf (decide (n < 0)) K < 0) ↔ n < 0 := by
    by_cases h : n < 0
    · have := hKpos h
      rw [decide_eq_true h]
      simp only [zOf, if_true]
      omega
    · rw [decide_eq_false h]
      simp [zOf]
      omega
  have k5' : ¬ E = 1 → (1 : Int) < (E : Int) := fun h => by omega
  have k5'' : E = 1 → ¬ (1 : Int) < (E : Int) := fun h => by omega
  obtain ⟨Ki, hKi⟩ : ∃ z : Int, z = (K : Int) := ⟨_, rfl⟩
  obtain ⟨Ei, hEi⟩ : ∃ z : Int, z = (E : Int) := ⟨_, rfl⟩
  rw [← hKi] at t1 w1 o1 x1
  rw [← hEi] at t2 w2 o2 x2 k5' k5''
  by_cases hE1 : E = 1
  · rw [if_pos hE1] at W
    have c5 := k5'' hE1
    by_cases h0 : n < 0
    · rw [if_pos (hsg.2 h0)] at W
      simp [k6, k0, k1, k4, k5, k7, t1, t2, w1, w2, hGn, hGz, o1, x1, o2, x2, c5, h0, binS, m1, m2, m3, m4, m5, m6, m7, Tds_mu, Tds_fns]
      simp [k0, k1, k4, k5, k7, W, hb, aw, binS, Tds_mu, Tds_fns]
    · rw [if_neg (fun h => h0 (hsg.1 h))] at W
      simp [k6, k0, k1, k4, k5, k7, t1, t2, w1, w2, hGn, hGz, o1, x1, o2, x2, c5, h0, binS, m1, m2, m3, m4, m5, m6, m7, Tds_mu, Tds_fns]
      simp [k0, k1, k4, k5, k7, W, hb, aw, binS, Tds_mu, Tds_fns]
  · rw [if_neg hE1] at W
    have c5 := k5' hE1
    by_cases h0 : n < 0
    · rw [if_pos (hsg.2 h0)] at W
      simp [k6, k0, k1, k4, k5, k7, t1, t2, w1, w2, hGn, hGz, o1, x1, o2, x2, c5, h0, binS, m1, m2, m3, m4, m5, m6, m7, Tds_mu, Tds_fns]
      simp [k0, k1, k4, k5, k7, W, hb, aw, binS, Tds_mu, Tds_fns]
    · rw [if_neg (fun h => h0 (hsg.1 h))] at W
      simp [k6, k0, k1, k4, k5, k7, t1, t2, w1, w2, hGn, hGz, o1, x1, o2, x2, c5, h0, binS, m1, m2, m3, m4, m5, m6, m7, Tds_mu, Tds_fns]
      simp [k0, k1, k4, k5, k7, W, hb, aw, binS, Tds_mu, Tds_fns]
end Go.Proofs.YtoechbpjfkabmaaGreatDoor
