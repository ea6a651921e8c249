/-
  Quotient and rest, texts read back; WholeSigns answers true on all values. No conditions beyond the lemmas' own hypotheses.
-/
import Derived.Test.YtoechbpjfkabmaaGreatDoorWholeIE
import Derived.Test.YtoechbpjfkabmaaGreatDoorRatE
set_option linter.unusedSimpArgs false
set_option linter.unusedVariables false
set_option linter.constructorNameAsVariable false

/-
  law2: WholeSigns answers true.
-/
namespace Go.Proofs.YtoechbpjfkabmaaGreatDoor
open Go Go.Abs Go.Limbs
variable {base : Prot}
set_option maxRecDepth 20000
attribute [local irreducible] vc
attribute [local simp] pureS touchV freezeL fuel shiftV u64 au
/-! ### Quotient and rest -/
theorem zOf_false (n : Nat) : zOf false n = (n : Int) := rfl
theorem zOf_true (n : Nat) : zOf true n = -(n : Int) := rfl
theorem div_back {z w : Int} (h : w ≠ 0) : qD z w * w + rD z w = z := by
  have hz := zOf_sign z
  have hw := zOf_sign w
  unfold qD rD nD lD cD
  have hb : w.natAbs ≠ 0 := by omega
  obtain ⟨a, ha⟩ : ∃ a, a = z.natAbs := ⟨_, rfl⟩
  obtain ⟨b, hb'⟩ : ∃ a, a = w.natAbs := ⟨_, rfl⟩
  obtain ⟨s, hs⟩ : ∃ a, a = decide (z < 0) := ⟨_, rfl⟩
  obtain ⟨t, ht⟩ : ∃ a, a = decide (w < 0) := ⟨_, rfl⟩
  rw [← ha, ← hs] at hz
  rw [← hb', ← ht] at hw
  rw [← ha, ← hb', ← hs, ← ht]
  rw [← hb'] at hb
  have e := Nat.div_add_mod a b
  have r := Nat.mod_lt a (Nat.pos_of_ne_zero hb)
  obtain ⟨u, hu⟩ : ∃ u, u = a / b := ⟨_, rfl⟩
  obtain ⟨v, hv⟩ : ∃ u, u = a % b := ⟨_, rfl⟩
  rw [← hu, ← hv] at e ⊢
  rw [← hv] at r
  have eI : (b : Int) * (u : Int) + (v : Int) = (a : Int) := by rw [← e]; simp
  rw [← hz, ← hw]
  clear hz hw hs ht ha hb' hu hv e
  cases s <;> cases t <;> simp only [zOf_false, zOf_true, Bool.bne_false, Bool.bne_true, Bool.not_false, Bool.not_true, Bool.true_and, Bool.false_and, Bool.false_eq_true, if_false]
  · grind
  · by_cases h0 : v = 0
    · subst h0
      simp [zOf]
      grind
    · simp [h0, zOf]
      have : ((b - v : Nat) : Int) = (b : Int) - (v : Int) := by omega
      rw [this]
      grind
  · by_cases h0 : v = 0
    · subst h0
      simp [zOf]
      grind
    · simp [h0, zOf]
      have : ((b - v : Nat) : Int) = (b : Int) - (v : Int) := by omega
      rw [this]
      grind
  · grind
theorem rest_lt {z w : Int} (h : w ≠ 0) : (rD z w).natAbs < w.natAbs := by
  unfold rD
  rw [zOf_abs]
  unfold lD cD
  have hb : 0 < w.natAbs := by omega
  have r := Nat.mod_lt z.natAbs hb
  split
  · rename_i hc
    simp only [Bool.and_eq_true, decide_eq_true_eq] at hc
    omega
  · exact r
theorem rest_sgn {z w : Int} (h : w ≠ 0) : sgnZ (rD z w) = 0 ∨ sgnZ (rD z w) = sgnZ w := by
  unfold rD
  obtain ⟨m, hm⟩ : ∃ m, m = lD z w := ⟨_, rfl⟩
  rw [← hm]
  unfold sgnZ
  by_cases hw : w < 0
  · rw [decide_eq_true hw, zOf_true]
    by_cases h0 : m = 0
    · subst h0; left; simp
    · right; rw [if_pos (by omega), if_pos hw]
  · rw [decide_eq_false hw, zOf_false]
    by_cases h0 : m = 0
    · subst h0; left; simp
    · right; rw [if_neg (by omega), if_neg (by omega), if_neg hw, if_neg h]
theorem zl_q {k : Nat} {z w : Int} (hz : zl z ≤ k) (hk : 1 ≤ k) : zl (qD z w) ≤ k + 1 := by
  unfold zl qD at *
  rw [zOf_abs]
  unfold nD
  split
  · have h1 := len_mono (Nat.div_le_self z.natAbs w.natAbs)
    have h2 := len_add (z.natAbs / w.natAbs) 1
    rw [len_one] at h2
    omega
  · have h1 := len_mono (Nat.div_le_self z.natAbs w.natAbs)
    omega
theorem zl_r {z w : Int} (h : w ≠ 0) : zl (rD z w) ≤ zl w := len_mono (Nat.le_of_lt (rest_lt h))
/-! ### Parse of Text -/
theorem parseI_text {z : Int} (h : zl z ≤ 64) : parseI (textZ z) = (decide (z < 0), limbs z.natAbs, 0) := by
  have p := parse_decQ (n := z.natAbs) h
  unfold textZ
  by_cases hz : z < 0
  · rw [if_pos hz, decide_eq_true hz]
    have hl : 0 < (limbs z.natAbs).length := by
      have : (limbs z.natAbs).length ≠ 0 := fun e => by
        have := len_eq_zero.1 e
        omega
      omega
    simp [parseI, p, hl]
  · rw [if_neg hz, decide_eq_false hz]
    cases hD : Lib.decDigits z.natAbs with
    | nil => exact absurd hD (dec_ne _)
    | cons c r =>
      have hc : c ≠ 45 := (isD_ne (List.all_eq_true.1 (numD_decQ z.natAbs).2 c (by rw [hD]; simp))).2
      rw [hD] at p
      simp [parseI, hc, p]
theorem parse_text {z : Int} (h : zl z ≤ 64) : sIParse [.str (textZ z)] = some (.tup [iN z, .int .i64 0]) := by
  have h1 := dec_1280 (n := z.natAbs) h
  have hl : (textZ z).length ≤ 90000 := by
    unfold textZ
    split <;> (try simp) <;> omega
  rw [sIParse_at hl, parseI_text h]
  rfl
theorem iN_abs (z : Int) : iN (z.natAbs : Int) = .agg [.bool false, .lst ((limbs z.natAbs).map u64)] := by
  rw [iN_raw, Int.natAbs_natCast, decide_eq_false (by omega)]
def Tsg : Tab := Ta2.with 15 (pureS sAwake)
theorem Tsg_ok : TabOk Tryz.prog base2 Tsg := Tab.with_ok Ta2_ok awake2_ok
theorem Tsg_mu (f : FuncId) (a : List AVal) (H : Heap) : Tsg.mu f a H = none := (rfl)
theorem Tsg_fns : Tsg.fn 15 = pureS sAwake ∧ Tsg.fn 16 = pureS sIDiv ∧ Tsg.fn 19 = pureS sIParse ∧ Tsg.fn 18 = pureS sIAdd ∧ Tsg.fn 20 = pureS sIText ∧ Tsg.fn 22 = pureS sISign ∧ Tsg.fn 24 = pureS sINeg ∧
  Tsg.fn 23 = pureS sICmp ∧ Tsg.fn 14 = pureS sIV ∧ Tsg.fn 21 = pureS sSameI ∧ Tsg.fn 17 = pureS sIMul := ⟨rfl, rfl, rfl, rfl, rfl, rfl, rfl, rfl, rfl, rfl, rfl⟩
def sLawZ2 : List PVal → Option PVal
  | [.agg [.bool _, .lst xs], .agg [.bool _, .lst ys]] => match decU xs, decU ys with | some _, some _ => some (.bool true) | _, _ => none
  | _ => none
theorem sLawZ2_list {s t : Bool} {a b : List Nat} (ha : Wf a) (hb : Wf b) : sLawZ2 [.agg [.bool s, .lst (a.map u64)], .agg [.bool t, .lst (b.map u64)]] = some (.bool true) := by simp only [sLawZ2, decU_map ha, decU_map hb]
theorem signs_ok : FnOk Tryz.prog base2 3 (pureS sLawZ2) := by
  refine pure_of_vc hmix Tsg_ok globNone low3 fun args x hs hf => ?_
  unfold sLawZ2 at hs
  split at hs
  case h_2 => cases hs
  rename_i s xs t ys
  split at hs
  case h_2 => cases hs
  rename_i a b ha hb
  obtain ⟨rfl, wa⟩ := decU_some ha
  obtain ⟨rfl, wb⟩ := decU_some hb
  cases hs
  refine ⟨by simp [lf3], ?_⟩
  have aw := sAwake_nil
  have va := sIV_list (s := s) wa
  have vb := sIV_list (s := t) wb
  by_cases la : a.length ≤ 8
  case neg =>
    have la' : (8 : Int) < a.length := by omega
    simp [lf3, la, la', aw, Tsg_mu, Tsg_fns]
  have la' : ¬ (8 : Int) < a.length := by omega
  by_cases lb : b.length ≤ 8
  case neg =>
    have lb' : (8 : Int) < b.length := by omega
    simp [lf3, la, la', lb, lb', aw, Tsg_mu, Tsg_fns]
  have lb' : ¬ (8 : Int) < b.length := by omega
  cases oa : okI s a with
  | false => rw [oa] at va; simp [lf3, la, la', lb, lb', va, aw, Tsg_mu, Tsg_fns]
  | true =>
  rw [oa] at va
  cases ob : okI t b with
  | false => rw [ob] at vb; simp [lf3, la, la', lb, lb', va, vb, aw, Tsg_mu, Tsg_fns]
  | true =>
  rw [ob] at vb
  by_cases hb0 : b = []
  · subst hb0
    simp only [List.map_nil] at vb ⊢
    simp [lf3, la, la', va, vb, aw, Tsg_mu, Tsg_fns]
  obtain ⟨z, hz, rfl, rfl⟩ := okI_of oa
  obtain ⟨w, hw, rfl, rfl⟩ := okI_of ob
  have hw0 : w ≠ 0 := fun e => hb0 (by rw [e]; exact limbs_zero)
  have lz : zl z ≤ 8 := la
  have lw : zl w ≤ 8 := lb
  have lbz : ((limbs w.natAbs).length : Int) ≠ 0 := by
    have : (limbs w.natAbs).length ≠ 0 := fun e => hb0 (List.length_eq_zero_iff.1 e)
    omega
  have lbq : (((limbs w.natAbs).length : Int) == 0) = false := beq_false_of_ne lbz
  have q9 := zl_q (w := w) lz (by omega)
  have r8 := zl_r (z := z) hw0
  have D := sIDiv_num (z := z) (w := w) (by omega) hw hw0
  have hback := div_back (z := z) hw0
  have hlt := rest_lt (z := z) hw0
  have hsg := rest_sgn (z := z) hw0
  have lqw : zl (qD z w * w) ≤ 17 := by
    have : zl (qD z w * w) ≤ zl (qD z w) + zl w := by unfold zl; rw [Int.natAbs_mul]; exact len_mul _ _
    omega
  have M := cIMul (z := qD z w) (w := w) (v := qD z w * w) (by omega) hw rfl (by omega)
  have A := cIAdd (z := qD z w * w) (w := rD z w) (v := z) (by omega) (by omega) hback hz
  have T := sIText_num hz
  have Pt := parse_text hz
  have S1 := cISelf z
  have G1 := cISign (z := rD z w) (by omega)
  have G2 := cISign hw
  have N1 := cINeg (z := z) (v := -z) hz rfl
  have N2 := cINeg (z := -z) (v := z) (by unfold zl; rw [Int.natAbs_neg]; exact hz) (Int.neg_neg z)
  have C := cICmp (z := ((rD z w).natAbs : Int)) (w := (w.natAbs : Int)) (by unfold zl; rw [Int.natAbs_natCast]; exact Nat.le_trans r8 (by omega)) (by unfold zl; rw [Int.natAbs_natCast]; exact Nat.le_trans lw (by omega))
  have hc : cmpZ ((rD z w).natAbs : Int) (w.natAbs : Int) = -1 := by unfold cmpZ; rw [if_pos (by omega)]
  rw [hc, iN_abs, iN_abs] at C
  have hsl : (sgnZ (rD z w) == 0) = true ∨ ((sgnZ (rD z w) == 0) = false ∧ sgnZ (rD z w) = sgnZ w) := by
    by_cases h0 : sgnZ (rD z w) = 0
    · left; rw [h0]; rfl
    · right; exact ⟨beq_false_of_ne h0, by rcases hsg with h | h; exact absurd h h0; exact h⟩
  obtain ⟨q, hq⟩ : ∃ q, q = qD z w := ⟨_, rfl⟩
  obtain ⟨r, hr⟩ : ∃ q, q = rD z w := ⟨_, rfl⟩
  obtain ⟨p, hp⟩ : ∃ p, p = qD z w * w := ⟨_, rfl⟩
  obtain ⟨m, hm⟩ : ∃ m, m = -z := ⟨_, rfl⟩
  rw [← hp, ← hq] at M
  rw [← hp, ← hr] at A
  rw [← hq, ← hr] at D
  rw [← hr] at G1 C hsl
  rw [← hm] at N1 N2
  obtain ⟨tx, htx⟩ : ∃ t, t = textZ z := ⟨_, rfl⟩
  rw [← htx] at T Pt
  obtain ⟨k, hk⟩ : ∃ k, k = sgnZ r := ⟨_, rfl⟩
  obtain ⟨j, hj⟩ : ∃ k, k = sgnZ w := ⟨_, rfl⟩
  rw [← hk] at G1 hsl
  rw [← hj] at G2 hsl
  obtain ⟨sz, hsz⟩ : ∃ s, s = decide (z < 0) := ⟨_, rfl⟩
  obtain ⟨sw, hsw⟩ : ∃ s, s = decide (w < 0) := ⟨_, rfl⟩
  obtain ⟨sr, hsr⟩ : ∃ s, s = decide (r < 0) := ⟨_, rfl⟩
  obtain ⟨Lz, hLz⟩ : ∃ l, l = limbs z.natAbs := ⟨_, rfl⟩
  obtain ⟨Lw, hLw⟩ : ∃ l, l = limbs w.natAbs := ⟨_, rfl⟩
  obtain ⟨Lr, hLr⟩ : ∃ l, l = limbs r.natAbs := ⟨_, rfl⟩
  have ez : iN z = .agg [.bool sz, .lst (Lz.map u64)] := by rw [hsz, hLz]; rfl
  have ew : iN w = .agg [.bool sw, .lst (Lw.map u64)] := by rw [hsw, hLw]; rfl
  have er : iN r = .agg [.bool sr, .lst (Lr.map u64)] := by rw [hsr, hLr]; rfl
  obtain ⟨sq, Lq, eq⟩ : ∃ (s : Bool) (l : List Nat), iN q = .agg [.bool s, .lst (l.map u64)] := ⟨_, _, rfl⟩
  obtain ⟨sp, Lp, ep⟩ : ∃ (s : Bool) (l : List Nat), iN p = .agg [.bool s, .lst (l.map u64)] := ⟨_, _, rfl⟩
  obtain ⟨sm, Lm, em⟩ : ∃ (s : Bool) (l : List Nat), iN m = .agg [.bool s, .lst (l.map u64)] := ⟨_, _, rfl⟩
  rw [← hsz, ← hLz] at va ⊢
  rw [← hLz] at la la'
  rw [← hsw, ← hLw] at vb ⊢
  rw [← hLw] at lb lb' lbq
  rw [← hLr, ← hLw] at C
  simp only [ez, ew, er, eq, ep, em] at D M A T Pt S1 G1 G2 N1 N2
  clear hLz hLw hLr hsz hsw hsr hk hj htx hm hp hq hr
  rcases hsl with hk0 | ⟨hk0, rfl⟩
  · have hk1 : (k != 0) = false := by
      rw [eq_of_beq hk0]; rfl
    simp [lf3, la, la', lb, lb', lbq, va, vb, D, M, A, T, Pt, S1, G1, hk0, hk1, vc_regionN, fillS, Tsg_mu, Tsg_fns]
    refine ⟨[], ?_⟩
    simp [C, N1, N2, S1, aw, fillS, Tsg_mu, Tsg_fns]
    exact fun k hk => by match k, hk with | 0, _ => rfl | 1, _ => rfl | 2, _ => rfl | 3, _ => rfl | 4, _ => rfl | 5, _ => rfl | 6, _ => rfl
  · have hk1 : (k != 0) = true := by
      unfold bne; rw [hk0]; rfl
    simp [lf3, la, la', lb, lb', lbq, va, vb, D, M, A, T, Pt, S1, G1, G2, hk0, hk1, vc_regionN, fillS, Tsg_mu, Tsg_fns]
    refine ⟨[], ?_⟩
    simp [C, N1, N2, S1, aw, fillS, Tsg_mu, Tsg_fns]
    exact fun k hk => by match k, hk with | 0, _ => rfl | 1, _ => rfl | 2, _ => rfl | 3, _ => rfl | 4, _ => rfl | 5, _ => rfl | 6, _ => rfl
end Go.Proofs.YtoechbpjfkabmaaGreatDoor
