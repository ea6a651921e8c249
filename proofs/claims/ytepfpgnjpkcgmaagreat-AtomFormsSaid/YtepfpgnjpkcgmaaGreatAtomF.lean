/-
  AtomForms answers true on all values. No conditions.
-/
import Derived.Test.YtepfpgnjpkcgmaaGreatAtomE
set_option linter.unusedSimpArgs false
set_option linter.unnecessarySimpa false
set_option linter.unusedVariables false
set_option linter.constructorNameAsVariable false

/-
  law9: AtomForms answers true.
-/
namespace Go.Proofs.YtepfpgnjpkcgmaaGreat
open Go Go.Abs Go.Limbs
variable {base : Prot}
set_option maxRecDepth 20000
attribute [local irreducible] vc
attribute [local simp] pureS touchV freezeL fuel shiftV u64 au
/-! ### Round -/
theorem tmod4 (i : Int) : -4 < Int.tmod i 4 ∧ Int.tmod i 4 < 4 := by
  rw [Int.tmod_eq_emod]
  split <;> omega
def roundZ (i n : Int) : Int := Int.tmod (Int.tmod i n + n) n
theorem round4 (i : Int) : roundZ i 4 = 0 ∨ roundZ i 4 = 1 ∨ roundZ i 4 = 2 ∨ roundZ i 4 = 3 := by
  unfold roundZ
  have h1 := tmod4 i
  have h2 : 0 ≤ Int.tmod (Int.tmod i 4 + 4) 4 := Int.tmod_nonneg _ (by omega)
  have h3 : Int.tmod (Int.tmod i 4 + 4) 4 < 4 := Int.tmod_lt_of_pos _ (by decide)
  omega
def sRound4 : List PVal → Option PVal
  | [.int .i64 i, .int .i64 n] => if n = 4 then some (.int .i64 (roundZ i 4)) else none
  | _ => none
theorem round_ok : FnOk Tryz.prog base 52 (pureS sRound4) := by
  refine pure_of_vc hmix Tab.none_ok globNone low52 fun args z hs hf => ?_
  unfold sRound4 at hs
  split at hs
  case h_2 => cases hs
  rename_i i n
  split at hs
  case isFalse => cases hs
  rename_i h
  subst h
  cases hs
  refine ⟨by simp [lf52], ?_⟩
  have h1 := tmod4 i
  have hw : IntKind.i64.wrap (Int.tmod i 4 + 4) = Int.tmod i 4 + 4 := IntWalk.i64_in _ (by omega)
  simp [lf52, roundZ, hw]
/-! ### The same atom of a sum and of its multiple -/
def Taf : Tab := ((((((((((((Tab.none.with 13 (pureS (g1 fewPoP))).with 14 (pureS (f1 fewP1))).with 31 (pureS (g1 okPo))).with 50 (pureS (f1 boolF))).with 51 (pureS (f1 signP))).with 37 (pureS sAwk)).with 52 (pureS sRound4)).with 53 (pureS (f1 negP))).with 20 (pureS (gks scaleP))).with 54 (pureS (ki makeP))).with 49 (pureS (h2 sameAt))).with 46 (pureS (h1 okAt))).with 38 (pureS (h1s notP))
theorem Taf_ok : TabOk Tryz.prog base Taf := Tab.with_ok (Tab.with_ok (Tab.with_ok (Tab.with_ok (Tab.with_ok (Tab.with_ok (Tab.with_ok (Tab.with_ok (Tab.with_ok (Tab.with_ok (Tab.with_ok (Tab.with_ok (Tab.with_ok Tab.none_ok apoly_ok) arat_ok) rpvalid_ok) rvalidR_ok) rSign_ok) awake9_ok) round_ok) rNeg_ok) rscale_ok) amake_ok) asame_ok) avalid_ok) anot_ok
theorem Taf_mu (f : FuncId) (a : List AVal) (H : Heap) : Taf.mu f a H = none := (rfl)
theorem Taf_fns : Taf.fn 13 = (pureS (g1 fewPoP)) ∧ Taf.fn 14 = (pureS (f1 fewP1)) ∧ Taf.fn 31 = (pureS (g1 okPo)) ∧ Taf.fn 50 = (pureS (f1 boolF)) ∧ Taf.fn 51 = (pureS (f1 signP)) ∧ Taf.fn 37 = (pureS sAwk) ∧ Taf.fn 52 = (pureS sRound4) ∧ Taf.fn 53 = (pureS (f1 negP)) ∧ Taf.fn 20 = (pureS (gks scaleP)) ∧ Taf.fn 54 = (pureS (ki makeP)) ∧ Taf.fn 49 = (pureS (h2 sameAt)) ∧ Taf.fn 46 = (pureS (h1 okAt)) ∧ Taf.fn 38 = (pureS (h1s notP)) := ⟨rfl, rfl, rfl, rfl, rfl, rfl, rfl, rfl, rfl, rfl, rfl, rfl, rfl⟩
def sLaw9f : List PVal → Option PVal
  | [a, k, .int .i64 _] => match decPo a, decF k with | some _, some _ => some (.bool true) | _, _ => none
  | _ => none
theorem sLaw9f_at {p : Po} {k : Fr} {i : Int} (wp : p.wf) (wk : k.wf) : sLaw9f [p.enc, k.enc, .int .i64 i] = some (.bool true) := by
  simp only [sLaw9f, decPo_enc wp, decF_enc wk]
theorem sLaw9f_some {args : List PVal} {z : PVal} (h : sLaw9f args = some z) : ∃ (p : Po) (k : Fr) (i : Int), p.wf ∧ k.wf ∧ args = [p.enc, k.enc, .int .i64 i] ∧ z = .bool true := by
  unfold sLaw9f at h
  split at h
  · split at h
    · rename_i p k hp hk
      cases h
      obtain ⟨rfl, wp⟩ := decPo_some hp
      obtain ⟨rfl, wk⟩ := decF_some hk
      exact ⟨p, k, _, wp, wk, rfl, rfl⟩
    · cases h
  · cases h
theorem few_is {P : Qo} (h : P.Is 64) (f : fewPo (ofP P) = true) : P.Is 8 ∧ P.ps.length ≤ 10 := by
  unfold fewPo at f
  rw [Bool.and_eq_true, Bool.and_eq_true, decide_eq_true_eq] at f
  obtain ⟨⟨f1, f2⟩, f3⟩ := f
  have hl : P.ps.length ≤ 10 := by simpa [ofP] using f2
  have key : ∀ q : Rat, fewF1 (ofQ q) = true → Sm 8 q := fun q h => by
    unfold fewF1 at h
    rw [Bool.and_eq_true, decide_eq_true_eq, decide_eq_true_eq] at h
    exact Sm_of_few h.1 h.2
  refine ⟨⟨h.ok, fun x hx => key x.1 (List.all_eq_true.1 f1 (ofA x) ?_), key _ f3⟩, hl⟩
  rw [List.take_of_length_le (by simp [ofP]; omega)]
  exact List.mem_map_of_mem hx
theorem few_rat {q : Rat} (f : fewF1 (ofQ q) = true) : Sm 8 q := by
  unfold fewF1 at f
  rw [Bool.and_eq_true, decide_eq_true_eq, decide_eq_true_eq] at f
  exact Sm_of_few f.1 f.2
theorem few_ofP {P : Qo} (h : P.ps.length ≤ 10) : (ofP P).few = true := decide_eq_true (by unfold ofP; simp; omega)
theorem len_norm (k : Int) (P : Qo) : (normQ k P).ps.length ≤ P.ps.length := by
  unfold normQ
  split
  · exact Nat.zero_le _
  · exact len_scale _ _
/-- What the law's calls answer, of a sum and its multiple. -/
structure FormF (K kd : Int) (p q A : Po) (n : Bool) : Prop where
  m1 : ki makeP [.int .i64 kd, p.enc] = some (.tup [(At.mk K A 0 0).enc, .bool n, .int .i64 0])
  m2 : ki makeP [.int .i64 kd, q.enc] = some (.tup [(At.mk K A 0 0).enc, .bool n, .int .i64 0])
  sm : h2 sameAt [(At.mk K A 0 0).enc, (At.mk K A 0 0).enc] = some (.bool true)
  v : h1 okAt [(At.mk K A 0 0).enc] = some (.bool true)
theorem form_f {kd : Int} {P : Qo} {c : Rat} (hP : P.Is 8) (hl : P.ps.length ≤ 10) (hc : Sm 8 c) (h0 : c ≠ 0) (hk : isSum (k3 kd) = true) (h : k3 kd ≠ 3 ∨ P.ps = [] → 0 < c) :
    FormF (k3 kd) kd (ofP P) (ofP (scaleQ P c)) (ofP (normQ (k3 kd) P)) (decide (kd = 4)) where
  m1 := by
    rw [ki_at (wf_ofP _) (few_ofP hl)]; unfold makeP tripAt
    rw [make_of hP (by decide) hk]; rfl
  m2 := by
    rw [ki_at (wf_ofP _) (few_ofP (Nat.le_trans (len_scale _ _) hl))]; unfold makeP tripAt
    rw [make_of (scaleQ_is hP hc) (by decide) hk, norm_scale h0 h hP]; rfl
  sm := sameAt_self (wf_ofP _)
  v := by
    rw [h1_at (wf_ofP _)]; unfold okAt
    rw [show (At.mk (k3 kd) (ofP (normQ (k3 kd) P)) 0 0).ok = true from can_ok hk (norm_can hP) ((norm_is hP (by decide)).mono (by decide))]
structure NotF (K J : Int) (A M : Po) : Prop where
  n1 : h1s notP [(At.mk K A 0 0).enc] = some (.tup [(At.mk J M 0 0).enc, .bool true])
  n2 : h1s notP [(At.mk J M 0 0).enc] = some (.tup [(At.mk K A 0 0).enc, .bool true])
  v2 : h1 okAt [(At.mk J M 0 0).enc] = some (.bool true)
  d : h2 sameAt [(At.mk J M 0 0).enc, (At.mk K A 0 0).enc] = some (.bool false)
theorem not_f {k : Int} {N : Qo} {m : Nat} (hk : k = 1 ∨ k = 2) (h : Can k N) (hN : N.Is m) (hm : 2 * m + 5 ≤ 64) (hl : N.ps.length ≤ 10) : NotF k (3 - k) (ofP N) (ofP (scaleQ N (-1))) := by
  have hs : isSum (3 - k) = true ∧ 3 - k ≠ 3 := by rcases hk with rfl | rfl <;> decide
  have hk2 : 3 - k = 1 ∨ 3 - k = 2 := by rcases hk with rfl | rfl <;> decide
  have hkk : 3 - (3 - k) = k := by omega
  have hM : (scaleQ N (-1)).Is (m + 1) := scaleQ_is hN smm1
  have cM : Can (3 - k) (scaleQ N (-1)) := can_neg hs.2 h
  refine ⟨?_, ?_, ?_, ?_⟩
  · rw [h1s_at (wf_ofP _) (few_ofP hl)]; unfold notP
    rw [show notAt ⟨k, ofP N, 0, 0⟩ = (atQ (3 - k) (scaleQ N (-1)), true) from not_of hk h hN (by omega)]; rfl
  · rw [h1s_at (wf_ofP _) (few_ofP (Nat.le_trans (len_scale _ _) hl))]; unfold notP
    rw [show notAt ⟨3 - k, ofP (scaleQ N (-1)), 0, 0⟩ = (atQ (3 - (3 - k)) (scaleQ (scaleQ N (-1)) (-1)), true) from not_of hk2 cM hM (by omega), hkk, scaleQ_neg]; rfl
  · rw [h1_at (wf_ofP _)]; unfold okAt
    rw [show (At.mk (3 - k) (ofP (scaleQ N (-1))) 0 0).ok = true from can_ok hs.1 cM (hM.mono (by omega))]
  · rw [h2_at (wf_ofP _) (wf_ofP _)]; unfold sameAt
    rw [decide_eq_false (fun e => by have := congrArg At.k e; simp only at this; rcases hk with rfl | rfl <;> exact absurd this (by decide))]
theorem sgn_zero {c : Rat} (h : Sm 64 c) (h0 : c ≠ 0) : signF (ofQ c) = if c < 0 then -1 else 1 := by
  rw [signF_num h]
  rcases rat_tri c 0 with h1 | h1 | h1
  · rw [cmpQ_lt h1, if_pos h1]
  · contradiction
  · rw [cmpQ_gt h1, if_neg (lt_asymm h1)]
theorem len_or {α : Type} (l : List α) : l.length = 0 ∨ ((l.length : Int) == 0) = false := by
  cases l with
  | nil => exact .inl rfl
  | cons _ _ => exact .inr (by simp; omega)
theorem f1_sign {x : Fr} (h : x.wf) : f1 signP [x.enc] = some (.int .i64 (signF x)) := f1_at h
theorem f1_neg {x : Fr} (h : x.wf) : f1 negP [x.enc] = some (negF x).enc := f1_at h
set_option maxHeartbeats 4000000 in
theorem atomForms_ok : FnOk Tryz.prog base 5 (pureS sLaw9f) := by
  refine pure_of_vc hmix Taf_ok globNone low5 fun args z hs hf => ?_
  obtain ⟨p, k, i, wp, wk, rfl, rfl⟩ := sLaw9f_some hs
  refine ⟨by simp [lf5], ?_⟩
  have aw := sAwk_nil
  have c1 : g1 fewPoP [p.enc] = some (.bool (fewPo p)) := g1_at wp
  have c2 : f1 fewP1 [k.enc] = some (.bool (fewF1 k)) := f1_at wk
  have c3 : g1 okPo [p.enc] = some (.bool p.ok) := g1_at wp
  have c4 : f1 boolF [k.enc] = some (.bool k.ok) := f1_at wk
  have c5 := f1_sign wk
  cases h1 : fewPo p with
  | false => rw [h1] at c1; simp only [Po.enc, Fr.enc] at c1 ⊢; simp [lf5, c1, aw, fillS, Taf_mu, Taf_fns]
  | true =>
  rw [h1] at c1
  cases h2 : fewF1 k with
  | false => rw [h2] at c2; simp only [Po.enc, Fr.enc] at c1 c2 ⊢; simp [lf5, c1, c2, aw, fillS, Taf_mu, Taf_fns]
  | true =>
  rw [h2] at c2
  cases h3 : p.ok with
  | false => rw [h3] at c3; simp only [Po.enc, Fr.enc] at c1 c2 c3 ⊢; simp [lf5, c1, c2, c3, aw, fillS, Taf_mu, Taf_fns]
  | true =>
  rw [h3] at c3
  cases h4 : k.ok with
  | false => rw [h4] at c4; simp only [Po.enc, Fr.enc] at c1 c2 c3 c4 ⊢; simp [lf5, c1, c2, c3, c4, aw, fillS, Taf_mu, Taf_fns]
  | true =>
  rw [h4] at c4
  obtain ⟨P, hP64, rfl⟩ := po_of h3
  obtain ⟨c, hc64, rfl⟩ := Fr.ok_of h4
  obtain ⟨hP, hl⟩ := few_is hP64 h1
  have hc := few_rat h2
  by_cases h0 : c = 0
  · subst h0
    rw [show signF (ofQ 0) = 0 from by rw [signF_num hc64]; rfl] at c5
    simp only [Po.enc, Fr.enc] at c1 c2 c3 c4 c5 ⊢
    simp [lf5, c1, c2, c3, c4, c5, aw, fillS, Taf_mu, Taf_fns]
  have hr : sRound4 [.int .i64 i, .int .i64 4] = some (.int .i64 (roundZ i 4)) := rfl
  have hr4 := round4 i
  obtain ⟨r, hr'⟩ : ∃ r, r = roundZ i 4 := ⟨_, rfl⟩
  rw [← hr'] at hr hr4
  clear hr'
  rw [sgn_zero hc64 h0] at c5
  have hpn : P.ps = [] ↔ (ofP P).ps = [] := by unfold ofP; simp
  -- what is multiplied by
  have sc : ∀ e : Rat, Sm 8 e → gks scaleP [(ofP P).enc, (ofQ e).enc] = some (.tup [(ofP (scaleQ P e)).enc, .int .i64 0]) := fun e he => by
    rw [gks_at (wf_ofP _) (wf_ofQ _) (few_ofP hl)]; unfold scaleP pairPo; rw [scalePo_of hP he (by decide)]; rfl
  have w2 : IntKind.i64.wrap 2 = 2 := rfl
  have w3 : IntKind.i64.wrap 3 = 3 := rfl
  have w4 : IntKind.i64.wrap 4 = 4 := rfl
  have w1 : IntKind.i64.wrap 1 = 1 := rfl
  rcases rat_tri c 0 with hneg | hz | hpos
  case inr.inl => exact absurd hz h0
  case inl =>
    rw [if_pos hneg] at c5
    have hcn : Sm 8 (-c) := Sm_neg hc
    have hn0 : -c ≠ 0 := by grind
    have hnp : 0 < -c := by grind
    have n0 := f1_neg (wf_ofQ c)
    rw [negF_num hc64] at n0
    have c6 := f1_sign (wf_ofQ (-c))
    rw [sgn_zero (Sm_neg hc64) hn0, if_neg (lt_asymm hnp)] at c6
    rcases hr4 with rfl | rfl | rfl | rfl
    · have F := form_f (kd := 1) (c := -c) hP hl hcn hn0 rfl (fun _ => hnp)
      have G := not_f (k := 1) (.inl rfl) (norm_can hP) (norm_is hP (by decide)) (by decide) (Nat.le_trans (len_norm 1 P) hl)
      have S := sc (-c) hcn
      obtain ⟨m1, m2, sm, v⟩ := F
      obtain ⟨n1, n2, v2, d⟩ := G
      simp only [show k3 1 = 1 from rfl, show (3 : Int) - 1 = 2 from rfl] at m1 m2 sm v n1 n2 v2 d
      try rw [show decide ((1 : Int) = 4) = false from rfl] at m1 m2
      obtain ⟨X, hX⟩ : ∃ x, x = ofP P := ⟨_, rfl⟩
      obtain ⟨Q, hQ⟩ : ∃ x, x = ofP (scaleQ P (-c)) := ⟨_, rfl⟩
      obtain ⟨A, hA⟩ : ∃ x, x = ofP (normQ 1 P) := ⟨_, rfl⟩
      obtain ⟨M, hM⟩ : ∃ x, x = ofP (scaleQ (normQ 1 P) (-1)) := ⟨_, rfl⟩
      obtain ⟨y, hy⟩ : ∃ x, x = ofQ c := ⟨_, rfl⟩
      obtain ⟨y', hy'⟩ : ∃ x, x = ofQ (-c) := ⟨_, rfl⟩
      simp only [← hX, ← hQ, ← hA, ← hM, ← hy, ← hy'] at c1 c2 c3 c4 c5 m1 m2 sm v n1 n2 v2 d S c6 n0 ⊢
      simp only [At.enc, Po.enc, Fr.enc] at c1 c2 c3 c4 c5 m1 m2 sm v n1 n2 v2 d S c6 n0 ⊢
      rcases len_or X.ps with hps | hps <;> simp [lf5, c1, c2, c3, c4, c5, hr, aw, w1, w2, w3, w4, fillS, Taf_mu, Taf_fns, hps, m1, m2, sm, v, n1, n2, v2, d, S, c6, n0]
    · have F := form_f (kd := 2) (c := -c) hP hl hcn hn0 rfl (fun _ => hnp)
      have G := not_f (k := 2) (.inr rfl) (norm_can hP) (norm_is hP (by decide)) (by decide) (Nat.le_trans (len_norm 2 P) hl)
      have S := sc (-c) hcn
      obtain ⟨m1, m2, sm, v⟩ := F
      obtain ⟨n1, n2, v2, d⟩ := G
      simp only [show k3 2 = 2 from rfl, show (3 : Int) - 2 = 1 from rfl] at m1 m2 sm v n1 n2 v2 d
      try rw [show decide ((2 : Int) = 4) = false from rfl] at m1 m2
      obtain ⟨X, hX⟩ : ∃ x, x = ofP P := ⟨_, rfl⟩
      obtain ⟨Q, hQ⟩ : ∃ x, x = ofP (scaleQ P (-c)) := ⟨_, rfl⟩
      obtain ⟨A, hA⟩ : ∃ x, x = ofP (normQ 2 P) := ⟨_, rfl⟩
      obtain ⟨M, hM⟩ : ∃ x, x = ofP (scaleQ (normQ 2 P) (-1)) := ⟨_, rfl⟩
      obtain ⟨y, hy⟩ : ∃ x, x = ofQ c := ⟨_, rfl⟩
      obtain ⟨y', hy'⟩ : ∃ x, x = ofQ (-c) := ⟨_, rfl⟩
      simp only [← hX, ← hQ, ← hA, ← hM, ← hy, ← hy'] at c1 c2 c3 c4 c5 m1 m2 sm v n1 n2 v2 d S c6 n0 ⊢
      simp only [At.enc, Po.enc, Fr.enc] at c1 c2 c3 c4 c5 m1 m2 sm v n1 n2 v2 d S c6 n0 ⊢
      rcases len_or X.ps with hps | hps <;> simp [lf5, c1, c2, c3, c4, c5, hr, aw, w1, w2, w3, w4, fillS, Taf_mu, Taf_fns, hps, m1, m2, sm, v, n1, n2, v2, d, S, c6, n0]
    · by_cases hps : P.ps = []
      · have S := sc c hc
        have m1 : ki makeP [.int .i64 3, (ofP P).enc] = some (.tup [(atQ 3 (normQ 3 P)).enc, .bool false, .int .i64 0]) := by rw [ki_at (wf_ofP _) (few_ofP hl)]; unfold makeP tripAt; rw [make_of hP (by decide) rfl]; rfl
        have m2 : ki makeP [.int .i64 3, (ofP (scaleQ P c)).enc] = some (.tup [(atQ 3 (normQ 3 (scaleQ P c))).enc, .bool false, .int .i64 0]) := by rw [ki_at (wf_ofP _) (few_ofP (Nat.le_trans (len_scale _ _) hl))]; unfold makeP tripAt; rw [make_of (scaleQ_is hP hc) (by decide) rfl]; rfl
        have hps2 : (ofP P).ps.length = 0 := by rw [hpn.1 hps]; rfl
        simp only [atQ] at m1 m2
        obtain ⟨X, hX⟩ : ∃ x, x = ofP P := ⟨_, rfl⟩
        obtain ⟨Q, hQ⟩ : ∃ x, x = ofP (scaleQ P c) := ⟨_, rfl⟩
        obtain ⟨A, hA⟩ : ∃ x, x = ofP (normQ 3 P) := ⟨_, rfl⟩
        obtain ⟨A', hA'⟩ : ∃ x, x = ofP (normQ 3 (scaleQ P c)) := ⟨_, rfl⟩
        obtain ⟨y, hy⟩ : ∃ x, x = ofQ c := ⟨_, rfl⟩
        simp only [← hX, ← hQ, ← hA, ← hA', ← hy] at c1 c2 c3 c4 c5 m1 m2 S hps2 ⊢
        simp only [At.enc, Po.enc, Fr.enc] at c1 c2 c3 c4 c5 m1 m2 S ⊢
        simp [lf5, c1, c2, c3, c4, c5, hr, aw, w1, w2, w3, w4, fillS, Taf_mu, Taf_fns, hps2, m1, m2, S]
      · have hps2 : (((ofP P).ps.length : Int) == 0) = false := (len_or _).resolve_left (fun e => hps (hpn.2 (List.eq_nil_of_length_eq_zero e)))
        have F := form_f (kd := 3) (c := c) hP hl hc h0 rfl (fun h => h.elim (fun h => absurd rfl h) (fun h => absurd h hps))
        have S := sc c hc
        have n1 : h1s notP [(At.mk 3 (ofP (normQ 3 P)) 0 0).enc] = some (.tup [zAt.enc, .bool false]) := by rw [h1s_at (wf_ofP _) (few_ofP (Nat.le_trans (len_norm 3 P) hl))]; unfold notP; rw [show notAt ⟨3, ofP (normQ 3 P), 0, 0⟩ = (zAt, false) from not_three _]
        obtain ⟨m1, m2, sm, v⟩ := F
        simp only [show k3 3 = 3 from rfl] at m1 m2 sm v
        try rw [show decide ((3 : Int) = 4) = false from rfl] at m1 m2
        obtain ⟨X, hX⟩ : ∃ x, x = ofP P := ⟨_, rfl⟩
        obtain ⟨Q, hQ⟩ : ∃ x, x = ofP (scaleQ P c) := ⟨_, rfl⟩
        obtain ⟨A, hA⟩ : ∃ x, x = ofP (normQ 3 P) := ⟨_, rfl⟩
        obtain ⟨y, hy⟩ : ∃ x, x = ofQ c := ⟨_, rfl⟩
        simp only [← hX, ← hQ, ← hA, ← hy] at c1 c2 c3 c4 c5 m1 m2 sm v n1 S hps2 ⊢
        simp only [At.enc, Po.enc, Fr.enc, zAt, zPo, zF, List.map_nil] at c1 c2 c3 c4 c5 m1 m2 sm v n1 S ⊢
        simp [lf5, c1, c2, c3, c4, c5, hr, aw, w1, w2, w3, w4, fillS, Taf_mu, Taf_fns, hps2, m1, m2, sm, v, n1, S]
    · by_cases hps : P.ps = []
      · have S := sc c hc
        have m1 : ki makeP [.int .i64 4, (ofP P).enc] = some (.tup [(atQ 3 (normQ 3 P)).enc, .bool true, .int .i64 0]) := by rw [ki_at (wf_ofP _) (few_ofP hl)]; unfold makeP tripAt; rw [make_of hP (by decide) rfl]; rfl
        have m2 : ki makeP [.int .i64 4, (ofP (scaleQ P c)).enc] = some (.tup [(atQ 3 (normQ 3 (scaleQ P c))).enc, .bool true, .int .i64 0]) := by rw [ki_at (wf_ofP _) (few_ofP (Nat.le_trans (len_scale _ _) hl))]; unfold makeP tripAt; rw [make_of (scaleQ_is hP hc) (by decide) rfl]; rfl
        have hps2 : (ofP P).ps.length = 0 := by rw [hpn.1 hps]; rfl
        simp only [atQ] at m1 m2
        obtain ⟨X, hX⟩ : ∃ x, x = ofP P := ⟨_, rfl⟩
        obtain ⟨Q, hQ⟩ : ∃ x, x = ofP (scaleQ P c) := ⟨_, rfl⟩
        obtain ⟨A, hA⟩ : ∃ x, x = ofP (normQ 3 P) := ⟨_, rfl⟩
        obtain ⟨A', hA'⟩ : ∃ x, x = ofP (normQ 3 (scaleQ P c)) := ⟨_, rfl⟩
        obtain ⟨y, hy⟩ : ∃ x, x = ofQ c := ⟨_, rfl⟩
        simp only [← hX, ← hQ, ← hA, ← hA', ← hy] at c1 c2 c3 c4 c5 m1 m2 S hps2 ⊢
        simp only [At.enc, Po.enc, Fr.enc] at c1 c2 c3 c4 c5 m1 m2 S ⊢
        simp [lf5, c1, c2, c3, c4, c5, hr, aw, w1, w2, w3, w4, fillS, Taf_mu, Taf_fns, hps2, m1, m2, S]
      · have hps2 : (((ofP P).ps.length : Int) == 0) = false := (len_or _).resolve_left (fun e => hps (hpn.2 (List.eq_nil_of_length_eq_zero e)))
        have F := form_f (kd := 4) (c := c) hP hl hc h0 rfl (fun h => h.elim (fun h => absurd rfl h) (fun h => absurd h hps))
        have S := sc c hc
        have n1 : h1s notP [(At.mk 3 (ofP (normQ 3 P)) 0 0).enc] = some (.tup [zAt.enc, .bool false]) := by rw [h1s_at (wf_ofP _) (few_ofP (Nat.le_trans (len_norm 3 P) hl))]; unfold notP; rw [show notAt ⟨3, ofP (normQ 3 P), 0, 0⟩ = (zAt, false) from not_three _]
        obtain ⟨m1, m2, sm, v⟩ := F
        simp only [show k3 4 = 3 from rfl] at m1 m2 sm v
        try rw [show decide ((4 : Int) = 4) = true from rfl] at m1 m2
        obtain ⟨X, hX⟩ : ∃ x, x = ofP P := ⟨_, rfl⟩
        obtain ⟨Q, hQ⟩ : ∃ x, x = ofP (scaleQ P c) := ⟨_, rfl⟩
        obtain ⟨A, hA⟩ : ∃ x, x = ofP (normQ 3 P) := ⟨_, rfl⟩
        obtain ⟨y, hy⟩ : ∃ x, x = ofQ c := ⟨_, rfl⟩
        simp only [← hX, ← hQ, ← hA, ← hy] at c1 c2 c3 c4 c5 m1 m2 sm v n1 S hps2 ⊢
        simp only [At.enc, Po.enc, Fr.enc, zAt, zPo, zF, List.map_nil] at c1 c2 c3 c4 c5 m1 m2 sm v n1 S ⊢
        simp [lf5, c1, c2, c3, c4, c5, hr, aw, w1, w2, w3, w4, fillS, Taf_mu, Taf_fns, hps2, m1, m2, sm, v, n1, S]
  case inr.inr =>
    rw [if_neg (lt_asymm hpos)] at c5
    rcases hr4 with rfl | rfl | rfl | rfl
    · have F := form_f (kd := 1) (c := c) hP hl hc h0 rfl (fun _ => hpos)
      have G := not_f (k := 1) (.inl rfl) (norm_can hP) (norm_is hP (by decide)) (by decide) (Nat.le_trans (len_norm 1 P) hl)
      have S := sc (c) hc
      obtain ⟨m1, m2, sm, v⟩ := F
      obtain ⟨n1, n2, v2, d⟩ := G
      simp only [show k3 1 = 1 from rfl, show (3 : Int) - 1 = 2 from rfl] at m1 m2 sm v n1 n2 v2 d
      try rw [show decide ((1 : Int) = 4) = false from rfl] at m1 m2
      obtain ⟨X, hX⟩ : ∃ x, x = ofP P := ⟨_, rfl⟩
      obtain ⟨Q, hQ⟩ : ∃ x, x = ofP (scaleQ P (c)) := ⟨_, rfl⟩
      obtain ⟨A, hA⟩ : ∃ x, x = ofP (normQ 1 P) := ⟨_, rfl⟩
      obtain ⟨M, hM⟩ : ∃ x, x = ofP (scaleQ (normQ 1 P) (-1)) := ⟨_, rfl⟩
      obtain ⟨y, hy⟩ : ∃ x, x = ofQ c := ⟨_, rfl⟩
      simp only [← hX, ← hQ, ← hA, ← hM, ← hy] at c1 c2 c3 c4 c5 m1 m2 sm v n1 n2 v2 d S ⊢
      simp only [At.enc, Po.enc, Fr.enc] at c1 c2 c3 c4 c5 m1 m2 sm v n1 n2 v2 d S ⊢
      rcases len_or X.ps with hps | hps <;> simp [lf5, c1, c2, c3, c4, c5, hr, aw, w1, w2, w3, w4, fillS, Taf_mu, Taf_fns, hps, m1, m2, sm, v, n1, n2, v2, d, S]
    · have F := form_f (kd := 2) (c := c) hP hl hc h0 rfl (fun _ => hpos)
      have G := not_f (k := 2) (.inr rfl) (norm_can hP) (norm_is hP (by decide)) (by decide) (Nat.le_trans (len_norm 2 P) hl)
      have S := sc (c) hc
      obtain ⟨m1, m2, sm, v⟩ := F
      obtain ⟨n1, n2, v2, d⟩ := G
      simp only [show k3 2 = 2 from rfl, show (3 : Int) - 2 = 1 from rfl] at m1 m2 sm v n1 n2 v2 d
      try rw [show decide ((2 : Int) = 4) = false from rfl] at m1 m2
      obtain ⟨X, hX⟩ : ∃ x, x = ofP P := ⟨_, rfl⟩
      obtain ⟨Q, hQ⟩ : ∃ x, x = ofP (scaleQ P (c)) := ⟨_, rfl⟩
      obtain ⟨A, hA⟩ : ∃ x, x = ofP (normQ 2 P) := ⟨_, rfl⟩
      obtain ⟨M, hM⟩ : ∃ x, x = ofP (scaleQ (normQ 2 P) (-1)) := ⟨_, rfl⟩
      obtain ⟨y, hy⟩ : ∃ x, x = ofQ c := ⟨_, rfl⟩
      simp only [← hX, ← hQ, ← hA, ← hM, ← hy] at c1 c2 c3 c4 c5 m1 m2 sm v n1 n2 v2 d S ⊢
      simp only [At.enc, Po.enc, Fr.enc] at c1 c2 c3 c4 c5 m1 m2 sm v n1 n2 v2 d S ⊢
      rcases len_or X.ps with hps | hps <;> simp [lf5, c1, c2, c3, c4, c5, hr, aw, w1, w2, w3, w4, fillS, Taf_mu, Taf_fns, hps, m1, m2, sm, v, n1, n2, v2, d, S]
    · have F := form_f (kd := 3) (c := c) hP hl hc h0 rfl (fun _ => hpos)
      have S := sc c hc
      have n1 : h1s notP [(At.mk 3 (ofP (normQ 3 P)) 0 0).enc] = some (.tup [zAt.enc, .bool false]) := by rw [h1s_at (wf_ofP _) (few_ofP (Nat.le_trans (len_norm 3 P) hl))]; unfold notP; rw [show notAt ⟨3, ofP (normQ 3 P), 0, 0⟩ = (zAt, false) from not_three _]
      obtain ⟨m1, m2, sm, v⟩ := F
      simp only [show k3 3 = 3 from rfl] at m1 m2 sm v
      try rw [show decide ((3 : Int) = 4) = false from rfl] at m1 m2
      obtain ⟨X, hX⟩ : ∃ x, x = ofP P := ⟨_, rfl⟩
      obtain ⟨Q, hQ⟩ : ∃ x, x = ofP (scaleQ P c) := ⟨_, rfl⟩
      obtain ⟨A, hA⟩ : ∃ x, x = ofP (normQ 3 P) := ⟨_, rfl⟩
      obtain ⟨y, hy⟩ : ∃ x, x = ofQ c := ⟨_, rfl⟩
      simp only [← hX, ← hQ, ← hA, ← hy] at c1 c2 c3 c4 c5 m1 m2 sm v n1 S ⊢
      simp only [At.enc, Po.enc, Fr.enc, zAt, zPo, zF, List.map_nil] at c1 c2 c3 c4 c5 m1 m2 sm v n1 S ⊢
      rcases len_or X.ps with hps | hps <;> simp [lf5, c1, c2, c3, c4, c5, hr, aw, w1, w2, w3, w4, fillS, Taf_mu, Taf_fns, hps, m1, m2, sm, v, n1, S]
    · have F := form_f (kd := 4) (c := c) hP hl hc h0 rfl (fun _ => hpos)
      have S := sc c hc
      have n1 : h1s notP [(At.mk 3 (ofP (normQ 3 P)) 0 0).enc] = some (.tup [zAt.enc, .bool false]) := by rw [h1s_at (wf_ofP _) (few_ofP (Nat.le_trans (len_norm 3 P) hl))]; unfold notP; rw [show notAt ⟨3, ofP (normQ 3 P), 0, 0⟩ = (zAt, false) from not_three _]
      obtain ⟨m1, m2, sm, v⟩ := F
      simp only [show k3 4 = 3 from rfl] at m1 m2 sm v
      try rw [show decide ((4 : Int) = 4) = true from rfl] at m1 m2
      obtain ⟨X, hX⟩ : ∃ x, x = ofP P := ⟨_, rfl⟩
      obtain ⟨Q, hQ⟩ : ∃ x, x = ofP (scaleQ P c) := ⟨_, rfl⟩
      obtain ⟨A, hA⟩ : ∃ x, x = ofP (normQ 3 P) := ⟨_, rfl⟩
      obtain ⟨y, hy⟩ : ∃ x, x = ofQ c := ⟨_, rfl⟩
      simp only [← hX, ← hQ, ← hA, ← hy] at c1 c2 c3 c4 c5 m1 m2 sm v n1 S ⊢
      simp only [At.enc, Po.enc, Fr.enc, zAt, zPo, zF, List.map_nil] at c1 c2 c3 c4 c5 m1 m2 sm v n1 S ⊢
      rcases len_or X.ps with hps | hps <;> simp [lf5, c1, c2, c3, c4, c5, hr, aw, w1, w2, w3, w4, fillS, Taf_mu, Taf_fns, hps, m1, m2, sm, v, n1, S]
end Go.Proofs.YtepfpgnjpkcgmaaGreat
