/-
  DecimalForms answers true on all values. No conditions.
-/
import Derived.Test.YtgdpephlpdonnaaGreatDoorDecD
set_option linter.unusedSimpArgs false
set_option linter.unusedVariables false
set_option linter.constructorNameAsVariable false

/-
  DecimalForms: the plain law.
-/
namespace Go.Proofs.YtgdpephlpdonnaaGreatDoor
open Go Go.Abs Go.Limbs Go.Lib
set_option maxRecDepth 20000
theorem dec_head {n : Nat} (h : n ≠ 0) : (decDigits n).head? ≠ some 48 := by
  induction n using Nat.strongRecOn with
  | _ n ih =>
    by_cases h10 : n < 10
    · rw [decDigits_one h10]
      intro e
      have e2 : digit n = 48 := Option.some.inj e
      have := digit_valQ h10
      rw [e2, show UInt8.toNat 48 = 48 from rfl] at this
      omega
    · rw [dec_ten h10]
      have hne := dec_ne (n / 10)
      have := ih (n / 10) (by omega) (by omega)
      cases hd : decDigits (n / 10) with
      | nil => exact absurd hd hne
      | cons c r =>
        rw [hd] at this
        simpa using this
theorem numS_dec (n : Nat) : numS (decDigits n) = true := by
  unfold numS
  rw [digS_decQ]
  by_cases h : n = 0
  · subst h
    rw [decDigits_one (by decide)]
    decide
  · have := dec_head h
    simp [this]
theorem numS_zero (n : Nat) : numS (48 :: decDigits n) = false := by
  unfold numS
  have : 48 :: decDigits n ≠ [48] := fun e => dec_ne n (List.cons.inj e).2
  simp [this]
theorem digS_bad {s : List UInt8} {c : UInt8} (h : c ∈ s) (hc : isD c = false) : digS s = false := by
  cases hd : digS s with
  | false => rfl
  | true =>
    have := List.all_eq_true.1 (digS_all hd) c h
    rw [hc] at this
    cases this
theorem numS_bad {s : List UInt8} {c : UInt8} (h : c ∈ s) (hc : isD c = false) : numS s = false := by
  unfold numS
  rw [digS_bad h hc]
  rfl
theorem no46 {s : List UInt8} (h : s.all isD = true) : ∀ c ∈ s, c ≠ 46 := by
  rintro c hc rfl
  have := List.all_eq_true.1 h _ hc
  exact absurd this (by decide)
theorem cut_none {s : List UInt8} (h : ∀ c ∈ s, c ≠ 46) : cutU 46 s = s ∧ cutB 46 s = false ∧ cutD 46 s = [] := by
  obtain ⟨h1, h2⟩ := takeW_none h
  refine ⟨h1, ?_, ?_⟩
  · unfold cutB; rw [h2]; rfl
  · unfold cutD; rw [h2]; rfl
theorem cut_at {s r : List UInt8} (h : ∀ c ∈ s, c ≠ 46) : cutU 46 (s ++ 46 :: r) = s ∧ cutB 46 (s ++ 46 :: r) = true ∧ cutD 46 (s ++ 46 :: r) = r := by
  obtain ⟨h1, h2⟩ := takeW_all (r := r) h
  refine ⟨h1, ?_, ?_⟩
  · unfold cutB; rw [h2]; rfl
  · unfold cutD; rw [h2]; rfl
theorem parse_bad {s : List UInt8} (h : numS (cutU 46 s) = false) : parseD s = (zF, 2) := by
  unfold parseD
  rw [h]
  rfl
theorem parse_bad2 {s : List UInt8} (h1 : cutB 46 s = true) (h2 : digS (cutD 46 s) = false) : parseD s = (zF, 2) := by
  unfold parseD
  rw [h1, h2, if_neg (by simp)]
section
variable {n : Nat} {t : List UInt8}
theorem f_len (hn : n < 9223372036854775808) : (decDigits n).length ≤ 19 := (pad_dec 18 n (Nat.lt_of_lt_of_le hn (by decide))).1
theorem f_0 (hn : n < 9223372036854775808) : parseD (decDigits n) = (ofQ (n : Rat), 0) := by
  obtain ⟨h1, h2, h3⟩ := cut_none (no46 (numD_decQ n).2)
  have hl := f_len hn
  unfold parseD
  rw [h1, h2, h3, numS_dec, if_pos (show (true && (!false || digS [])) = true from rfl), show trimR0 [] = [] from rfl, if_pos ⟨by simp, by omega⟩]
  have e : fracS (decDigits n) [] = (n : Rat) := by
    unfold fracS
    rw [List.append_nil, (numD_decQ n).1, List.length_nil, Nat.pow_zero]
    show mkRat (n : Int) 1 = _
    rw [show ((n : Nat) : Rat) = (((n : Nat) : Int) : Rat) from rfl, ← divInt_one]
    exact (Rat.divInt_ofNat _ 1).symm
  rw [e]
  have hS : Sm 64 ((n : Nat) : Rat) := Sm_int (z := (n : Int)) (by rw [Int.natAbs_natCast]; exact Nat.le_trans (len_dig (m := n) (k := 19) (Nat.lt_of_lt_of_le hn (by decide))) (by omega)) (by omega)
  exact heldQ_ok hS
theorem f_1 (hn : n < 9223372036854775808) (ht : t.all isD = true) (h0 : t ≠ []) (hl : t.length ≤ 30) : ∃ q : Rat, parseD (decDigits n ++ 46 :: t) = (ofQ q, 0) ∧ Sm 60 q ∧ q.floor = (n : Int) := by
  obtain ⟨h1, h2, h3⟩ := cut_at (r := t) (no46 (numD_decQ n).2)
  have hln := f_len hn
  have hE := trimR0_all ht
  have hEl := trimR0_len t
  have hdt : digS t = true := by
    unfold digS
    rw [ht]
    cases t with
    | nil => exact absurd rfl h0
    | cons c r => rfl
  obtain ⟨E, hEe⟩ : ∃ e, e = trimR0 t := ⟨_, rfl⟩
  have hall : (decDigits n ++ E).all isD = true := by rw [List.all_append, (numD_decQ n).2, hEe, hE]; rfl
  have hlt := numD_lt _ hall
  rw [List.length_append] at hlt
  have hEl' : E.length ≤ 30 := by rw [hEe]; omega
  have hS : Sm 60 (fracS (decDigits n) E) := by
    unfold fracS
    refine Sm_mk ?_ (Nat.le_trans (len_pow10 _) (by omega)) (pow10_ne _)
    show len (((numD 0 (decDigits n ++ E) : Nat) : Int)).natAbs ≤ 60
    rw [Int.natAbs_natCast]
    exact Nat.le_trans (len_dig hlt) (by omega)
  refine ⟨fracS (decDigits n) E, ?_, hS, ?_⟩
  · unfold parseD
    rw [h1, h2, h3, numS_dec, hdt, if_pos (by simp), ← hEe, if_pos ⟨by omega, by omega⟩]
    exact heldQ_ok (Sm_mono hS (by omega))
  · have e1 : numD 0 (decDigits n ++ E) = n * 10 ^ E.length + numD 0 E := by rw [numD_appQ, (numD_decQ n).1, numD_acc]
    have e2 : numD 0 E < 10 ^ E.length := numD_lt E (by rw [hEe]; exact hE)
    unfold fracS
    rw [e1]
    have hb : 0 < 10 ^ E.length := Nat.pow_pos (by decide)
    generalize 10 ^ E.length = b at *
    generalize numD 0 E = c at *
    show (mkRat ((n * b + c : Nat) : Int) b).floor = (n : Int)
    have hbq : (0 : Rat) < ((b : Int) : Rat) := by
      have := Rat.intCast_lt_intCast.2 (show (0 : Int) < (b : Int) by omega)
      simpa using this
    have hq : mkRat ((n * b + c : Nat) : Int) b = (((n * b + c : Nat) : Int) : Rat) / ((b : Int) : Rat) := by
      rw [← Rat.divInt_ofNat, Rat.divInt_eq_div]
    rw [hq]
    have hle : (n : Int) ≤ ((((n * b + c : Nat) : Int) : Rat) / ((b : Int) : Rat)).floor := by
      rw [Rat.le_floor_iff, ← Rat.not_lt, Rat.div_lt_iff hbq, ← Rat.intCast_mul, Rat.intCast_lt_intCast]
      push_cast
      omega
    have hgt : ¬ (n : Int) + 1 ≤ ((((n * b + c : Nat) : Int) : Rat) / ((b : Int) : Rat)).floor := by
      rw [Rat.le_floor_iff, ← Rat.not_lt, Rat.div_lt_iff hbq, ← Rat.intCast_mul, Rat.intCast_lt_intCast]
      have : ((n : Int) + 1) * (b : Int) = ((n * b + b : Nat) : Int) := by rw [Int.add_mul, Int.one_mul]; push_cast; rfl
      rw [this]
      omega
    omega
theorem f_2 : parseD (48 :: decDigits n) = (zF, 2) := by
  obtain ⟨h1, _, _⟩ := cut_none (s := 48 :: decDigits n) (no46 (by rw [List.all_cons, (numD_decQ n).2]; decide))
  exact parse_bad (by rw [h1]; exact numS_zero n)
theorem f_3 : parseD (decDigits n ++ [46]) = (zF, 2) := by
  obtain ⟨_, h2, h3⟩ := cut_at (r := []) (no46 (numD_decQ n).2)
  exact parse_bad2 h2 (by rw [h3]; rfl)
theorem f_4 : parseD (46 :: t) = (zF, 2) := by
  obtain ⟨h1, _, _⟩ := cut_at (s := []) (r := t) (by simp)
  exact parse_bad (by rw [show (46 :: t) = [] ++ 46 :: t from rfl, h1]; rfl)
theorem f_5 {c : UInt8} (hc : isD c = false) (h46 : c ≠ 46) : parseD (c :: decDigits n) = (zF, 2) := by
  obtain ⟨h1, _, _⟩ := cut_none (s := c :: decDigits n) (fun x hx => by
    rcases List.mem_cons.1 hx with rfl | hx
    · exact h46
    · exact no46 (numD_decQ n).2 x hx)
  exact parse_bad (by rw [h1]; exact numS_bad (c := c) (by simp) hc)
theorem f_6 : parseD (decDigits n ++ 46 :: (t ++ [46, 49])) = (zF, 2) := by
  obtain ⟨_, h2, h3⟩ := cut_at (r := t ++ [46, 49]) (no46 (numD_decQ n).2)
  exact parse_bad2 h2 (by rw [h3]; exact digS_bad (c := 46) (by simp) (by decide))
theorem f_7 : parseD (decDigits n ++ [101, 49]) = (zF, 2) := by
  obtain ⟨h1, _, _⟩ := cut_none (s := decDigits n ++ [101, 49]) (fun x hx => by
    rcases List.mem_append.1 hx with hx | hx
    · exact no46 (numD_decQ n).2 x hx
    · simp at hx
      rcases hx with rfl | rfl <;> decide)
  exact parse_bad (by rw [h1]; exact numS_bad (c := 101) (by simp) (by decide))
theorem f_10 : parseD [] = (zF, 2) := parse_bad rfl
end
end Go.Proofs.YtgdpephlpdonnaaGreatDoor

/-
  The reference's Floor; DecimalForms answers true.
-/
namespace Go.Proofs.YtgdpephlpdonnaaGreatDoor
open Go Go.Abs Go.Limbs
variable {base : Prot}
set_option maxRecDepth 20000
attribute [local irreducible] vc
attribute [local simp] pureS touchV freezeL fuel shiftV u64 au
/-! ### Floor -/
def Trfl : Tab := (((Tab.none.with 41 (pureS (f1 boolF))).with 42 (pureS sQuotR)).with 55 (pureS sPlus)).with 31 (pureS sOne)
def Trfm : Tab := Trfl.with 53 (pureS sWide)
theorem Trfm_ok : TabOk Tryz.prog base Trfm := Tab.with_ok (Tab.with_ok (Tab.with_ok (Tab.with_ok (Tab.with_ok Tab.none_ok rvalidR_ok) rdiv_ok) radd_ok) rone_ok) riwide_ok
theorem Trfm_mu (f : FuncId) (a : List AVal) (H : Heap) : Trfm.mu f a H = none := (rfl)
theorem Trfm_fns : Trfm.fn 41 = pureS (f1 boolF) ∧ Trfm.fn 42 = pureS sQuotR ∧ Trfm.fn 55 = pureS sPlus ∧ Trfm.fn 31 = pureS sOne ∧ Trfm.fn 53 = pureS sWide := ⟨rfl, rfl, rfl, rfl, rfl⟩
theorem rfloor_ok : FnOk Tryz.prog base 20 (pureS sFloor) := by
  refine pure_of_vc hmix Trfm_ok globNone low20 fun args z hs hf => ?_
  unfold sFloor at hs
  split at hs
  case h_2 => cases hs
  rename_i v
  split at hs
  case h_2 => cases hs
  rename_i x hx
  obtain ⟨rfl, wx⟩ := decF_some hx
  refine ⟨by simp [lf20], ?_⟩
  have v1 := vF wx
  cases ox : x.ok with
  | false =>
    rw [ox] at v1 hs
    cases hs
    simp only [Fr.enc] at v1 ⊢
    simp [lf20, v1, iP, fillS, Trfm_mu, Trfm_fns]
  | true =>
    rw [ox] at v1 hs
    rw [if_pos rfl] at hs
    split at hs
    case isFalse => cases hs
    rename_i h60
    cases hs
    obtain ⟨p, hp, rfl⟩ := Fr.ok_of ox
    rw [q_ofQ]
    have hn60 : len p.num.natAbs ≤ 60 := h60
    have hd := hp.2
    have q1 : sQuotR [.lst ((ofQ p).n.map u64), .lst ((ofQ p).d.map u64)] = some (.tup [.lst ((limbs (p.num.natAbs / p.den)).map u64), .lst ((limbs (p.num.natAbs % p.den)).map u64)]) := sQuotR_num (by omega) (by omega) p.den_nz
    have hql : len (p.num.natAbs / p.den) ≤ 60 := Nat.le_trans (len_mono (Nat.div_le_self _ _)) hn60
    have o1 := sOne_nil
    have a1 : sPlus [.lst ((limbs (p.num.natAbs / p.den)).map u64), .lst [.int .u64 1]] = some (.lst ((limbs (p.num.natAbs / p.den + 1)).map u64)) := by
      have := sPlus_num (a := p.num.natAbs / p.den) (b := 1) (by omega) (by rw [len_one]; omega)
      rw [limbs_one] at this
      exact this
    have hfl := qD_floor p
    unfold qD nD cD at hfl
    rw [Int.natAbs_natCast, decide_eq_false (show ¬ (p.den : Int) < 0 by omega), Bool.bne_false] at hfl
    have hw1 := sWide_iN (decide (p.num < 0)) (p.num.natAbs / p.den)
    have hw2 := sWide_iN (decide (p.num < 0)) (p.num.natAbs / p.den + 1)
    have hr0 : (0 < (limbs (p.num.natAbs % p.den)).length) ↔ p.num.natAbs % p.den ≠ 0 := by
      constructor
      · intro h e
        rw [e, limbs_zero] at h
        simp at h
      · intro h
        have : (limbs (p.num.natAbs % p.den)).length ≠ 0 := fun e => h (len_eq_zero.1 e)
        omega
    have hs : (ofQ p).s = decide (p.num < 0) := rfl
    obtain ⟨q, hq⟩ : ∃ q, q = p.num.natAbs / p.den := ⟨_, rfl⟩
    obtain ⟨r, hr⟩ : ∃ q, q = p.num.natAbs % p.den := ⟨_, rfl⟩
    rw [← hq] at q1 a1 hfl hw1 hw2
    rw [← hr] at q1 hfl hr0
    obtain ⟨Lr, hLr⟩ : ∃ l, l = limbs r := ⟨_, rfl⟩
    rw [← hLr] at q1 hr0
    simp only [Fr.enc, hs] at v1 ⊢
    by_cases h0 : p.num < 0
    · rw [decide_eq_true h0] at v1 hfl hw1 hw2 ⊢
      by_cases hr1 : r = 0
      · rw [if_neg (by simp [hr1])] at hfl
        rw [hfl] at hw1
        have hl : ¬ 0 < Lr.length := fun h => (hr0.1 h) hr1
        have hl' : Lr = [] := List.length_eq_zero_iff.1 (by omega)
        rw [iN_case p.floor] at hw1 ⊢
        subst hl'
        simp only [List.map_nil] at q1
        simp [lf20, v1, q1, hw1, fillS, Trfm_mu, Trfm_fns]
      · rw [if_pos (by simp [hr1])] at hfl
        rw [hfl] at hw2
        have hl := hr0.2 hr1
        rw [iN_case p.floor] at hw2 ⊢
        simp [lf20, v1, q1, hl, o1, a1, hw2, fillS, Trfm_mu, Trfm_fns]
    · rw [decide_eq_false h0] at v1 hfl hw1 hw2 ⊢
      rw [if_neg (by simp)] at hfl
      rw [hfl] at hw1
      rw [iN_case p.floor] at hw1 ⊢
      simp [lf20, v1, q1, hw1, fillS, Trfm_mu, Trfm_fns]
/-! ### The law -/
theorem tail_loop {T : Tab} (hmu : ∀ f a H, T.mu f a H = none) (haw : T.fn 6 = pureS sAwake4) {t : List UInt8} (hl : t.length ≤ 30) {H : Heap} {Q : LExit → AFr → Heap → Prop} {fr : AFr} (h1 : fr 1 = .p (.str t)) (h7 : fr 7 = .p (.int .i64 0))
    (hq1 : t.all isD = true → ∀ fr' : AFr, fr' 0 = fr 0 → fr' 1 = .p (.str t) → fr' 2 = fr 2 → fr' 6 = fr 6 → Q .normal fr' H) (hq2 : ∀ fr' : AFr, fr' 6 = .p (.bool true) → Q .ret fr' H) : vc T lf5_B0 Q fr H := by
  have aw := sAwake4_nil
  simp only [lf5_B0, vc_block]
  refine loop_ind (fun fr2 H2 => H2 = H ∧ fr2 0 = fr 0 ∧ fr2 1 = .p (.str t) ∧ fr2 2 = fr 2 ∧ fr2 6 = fr 6 ∧ ∃ i : Nat, i ≤ t.length ∧ (t.take i).all isD = true ∧ fr2 7 = .p (.int .i64 (i : Int))) (fun fr2 _ => t.length - ivar (fr2 7)) ⟨rfl, rfl, h1, rfl, rfl, 0, by omega, by simp, h7⟩ ?_
  rintro fr2 H2 ⟨rfl, g0, g1, g2, g6, i, hi, ha, g7⟩
  by_cases h : i < t.length
  · obtain ⟨c, hc0⟩ : ∃ c, t[i]? = some c := ⟨_, List.getElem?_eq_getElem h⟩
    have hc : t[i] = c := by rw [List.getElem?_eq_getElem h] at hc0; exact Option.some.inj hc0
    have hiI : (i : Int) < (t.length : Int) := by omega
    have hw := wrap_succ (i := i) (by omega)
    by_cases h48 : c.toNat < 48
    · have h48I : (c.toNat : Int) < 48 := by omega
      simp [g0, g1, g2, g6, g7, h, hiI, hc, h48, h48I, aw, hmu, haw]
      exact hq2 _ (by simp)
    · have h48I : ¬ (c.toNat : Int) < 48 := by omega
      by_cases h57 : 57 < c.toNat
      · have h57I : (57 : Int) < (c.toNat : Int) := by omega
        simp [g0, g1, g2, g6, g7, h, hiI, hc, h48, h48I, h57, h57I, aw, hmu, haw]
        exact hq2 _ (by simp)
      · have h57I : ¬ (57 : Int) < (c.toNat : Int) := by omega
        have hD : isD c = true := by unfold isD; simp; omega
        have ha2 : (t.take (i + 1)).all isD = true := by
          rw [List.take_add_one, hc0, List.all_append, ha]
          simp [hD]
        simp [g0, g1, g2, g6, g7, h, hiI, hc, h48, h48I, h57, h57I, hw, hmu, haw]
        refine ⟨⟨i + 1, by omega, by simpa using ha2, by simp⟩, ?_⟩
        simp [ivar]
        omega
  · have hie : i = t.length := by omega
    have hiI : ¬ (i : Int) < (t.length : Int) := by omega
    rw [hie, List.take_length] at ha
    simp [g0, g1, g2, g6, g7, h, hiI]
    exact hq1 ha _ (by simp [g0]) (by simp [g1]) (by simp [g2]) (by simp [g6])
def sLawISI : List PVal → Option PVal
  | [.int .i64 n, .str _, .int .i64 k] => if (-9223372036854775808 ≤ n ∧ n < 9223372036854775808) ∧ (-9223372036854775808 ≤ k ∧ k < 9223372036854775808) then some (.bool true) else none
  | _ => none
def Tdf : Tab := (Tds.with 20 (pureS sFloor)).with 21 (pureS sSameI)
theorem Tdf_ok : TabOk Tryz.prog base2 Tdf := Tab.with_ok (Tab.with_ok Tds_ok rfloor_ok) sameI_ok
theorem Tdf_mu (f : FuncId) (a : List AVal) (H : Heap) : Tdf.mu f a H = none := (rfl)
theorem Tdf_fns : Tdf.fn 20 = pureS sFloor ∧ Tdf.fn 21 = pureS sSameI ∧ Tdf.fn 6 = pureS sAwake4 ∧ Tdf.fn 19 = pureS sIOf ∧ Tdf.fn 18 = pureS sIText ∧ Tdf.fn 14 = pureS sQOf ∧ Tdf.fn 11 = pureS (f2 sameP) ∧ Tdf.fn 7 = pureS sDParse := ⟨rfl, rfl, rfl, rfl, rfl, rfl, rfl, rfl⟩
theorem forms_ok : FnOk Tryz.prog base2 5 (pureS sLawISI) := by
  refine pure_of_vc hmix Tdf_ok globNone low5 fun args z hs hf => ?_
  unfold sLawISI at hs
  split at hs
  case h_2 => cases hs
  rename_i n t k
  split at hs
  case isFalse => cases hs
  rename_i hc
  obtain ⟨hn, hk⟩ := hc
  cases hs
  refine ⟨by simp [lf5], ?_⟩
  have aw := sAwake4_nil
  by_cases c1 : n < 0
  · simp [lf5, c1, aw, Tdf_mu, Tdf_fns]
  by_cases c2 : t.length < 1
  · have c2I : (t.length : Int) < 1 := by omega
    simp [lf5, c1, c2, c2I, aw, Tdf_mu, Tdf_fns]
  have c2I : ¬ (t.length : Int) < 1 := by omega
  by_cases c3 : 30 < t.length
  · have c3I : (30 : Int) < (t.length : Int) := by omega
    simp [lf5, c1, c2, c2I, c3, c3I, aw, Tdf_mu, Tdf_fns]
  have c3I : ¬ (30 : Int) < (t.length : Int) := by omega
  obtain ⟨N, hN⟩ : ∃ N : Nat, n = (N : Int) := ⟨n.toNat, by omega⟩
  have hNl : N < 9223372036854775808 := by omega
  obtain ⟨o1, x1⟩ := text_nat hNl
  rw [← hN] at o1 x1
  have hk1 : -10 ≤ k.tmod 11 ∧ k.tmod 11 ≤ 10 := by
    by_cases h : 0 ≤ k
    · rw [Int.tmod_eq_emod_of_nonneg h]; omega
    · obtain ⟨m, rfl⟩ : ∃ m : Int, k = -m := ⟨-k, by omega⟩
      rw [Int.neg_tmod, Int.tmod_eq_emod_of_nonneg (by omega)]; omega
  obtain ⟨k1, hk1'⟩ : ∃ x, x = k.tmod 11 := ⟨_, rfl⟩
  rw [← hk1'] at hk1
  have hw : IntKind.i64.wrap (k1 + 11) = k1 + 11 := IntWalk.i64_in _ (by omega)
  have hj1 : 0 ≤ (k1 + 11).tmod 11 ∧ (k1 + 11).tmod 11 ≤ 10 := by
    rw [Int.tmod_eq_emod_of_nonneg (by omega)]; omega
  obtain ⟨j, hj⟩ : ∃ x, x = (k1 + 11).tmod 11 := ⟨_, rfl⟩
  rw [← hj] at hj1
  have LT := f_len hNl
  have htne : t ≠ [] := fun e => by rw [e] at c2; simp at c2
  simp [lf5, c1, c2, c2I, c3, c3I, Tdf_mu, Tdf_fns]
  refine tail_loop (t := t) Tdf_mu Tdf_fns.2.2.1 (by omega) (by simp) (by simp) (fun ha fr3 e0 e1 e2 e6 => ?_) (fun fr3 e6 => ?_)
  case refine_2 => simp [e6]
  obtain ⟨q1, p1, s1, fl1⟩ := f_1 (t := t) hNl ha htne (by omega)
  have p0 := f_0 hNl
  have p2 := f_2 (n := N)
  have p3 := f_3 (n := N)
  have p4 := f_4 (t := t)
  have p5 := f_5 (n := N) (c := 45) (by decide) (by decide)
  have p6 := f_6 (n := N) (t := t)
  have p7 := f_7 (n := N)
  have p8 := f_5 (n := N) (c := 43) (by decide) (by decide)
  have p9 := f_5 (n := N) (c := 32) (by decide) (by decide)
  have p10 := f_10
  obtain ⟨S, hS⟩ : ∃ s, s = Lib.decDigits N := ⟨_, rfl⟩
  rw [← hS] at x1 LT p0 p1 p2 p3 p5 p6 p7 p8 p9
  have m1 : S.length + 1 ≤ maxLen := by unfold maxLen; omega
  have m2 : S.length + 1 + t.length ≤ maxLen := by unfold maxLen; omega
  have m3 : 1 + S.length ≤ maxLen := by unfold maxLen; omega
  have m4 : 1 + t.length ≤ maxLen := by unfold maxLen; omega
  have m5 : S.length + (t.length + 1) + 2 ≤ maxLen := by unfold maxLen; omega
  have m6 : S.length + 2 ≤ maxLen := by unfold maxLen; omega
  have qn : ((N : Nat) : Rat) = ((n : Int) : Rat) := by rw [hN]; rfl
  rw [qn] at p0
  have hS60 : Sm 60 ((n : Int) : Rat) := Sm_int (z := n) (Nat.le_trans (zl_int hn.1 hn.2) (by omega)) (by omega)
  have F0 := sFloor_num hS60
  rw [Rat.floor_intCast] at F0
  have F1 := sFloor_num s1
  rw [fl1, ← hN] at F1
  have SI := cISelf n
  have O := sQOf_at (n := n) (d := 1) hn (by decide)
  rw [divInt_one] at O
  have SS := sameP_self ((n : Int) : Rat)
  have D0 := sDParse_at (s := S) (by omega)
  have D1 := sDParse_at (s := S ++ 46 :: t) (by simp; omega)
  have D2 := sDParse_at (s := 48 :: S) (by simp; omega)
  have D3 := sDParse_at (s := S ++ [46]) (by simp; omega)
  have D4 := sDParse_at (s := 46 :: t) (by simp; omega)
  have D5 := sDParse_at (s := 45 :: S) (by simp; omega)
  have D6 := sDParse_at (s := S ++ 46 :: (t ++ [46, 49])) (by simp; omega)
  have D7 := sDParse_at (s := S ++ [101, 49]) (by simp; omega)
  have D8 := sDParse_at (s := 43 :: S) (by simp; omega)
  have D9 := sDParse_at (s := 32 :: S) (by simp; omega)
  have D10 := sDParse_at (s := []) (by simp)
  rw [p0] at D0
  rw [p1] at D1
  rw [p2] at D2
  rw [p3] at D3
  rw [p4] at D4
  rw [p5] at D5
  rw [p6] at D6
  rw [p7] at D7
  rw [p8] at D8
  rw [p9] at D9
  rw [p10] at D10
  obtain ⟨X0, hX0⟩ : ∃ x, x = ofQ ((n : Int) : Rat) := ⟨_, rfl⟩
  obtain ⟨X1, hX1⟩ : ∃ x, x = ofQ q1 := ⟨_, rfl⟩
  rw [← hX0] at F0 O SS D0
  rw [← hX1] at F1 D1
  rw [iN_case n] at o1 x1 F0 F1 SI
  simp only [pairF, Fr.enc, zF, List.map_nil] at F0 F1 O SS D0 D1 D2 D3 D4 D5 D6 D7 D8 D9 D10
  clear p0 p1 p2 p3 p4 p5 p6 p7 p8 p9 p10 hX0 hX1 hS hN qn
  have hjc : j = 0 ∨ j = 1 ∨ j = 2 ∨ j = 3 ∨ j = 4 ∨ j = 5 ∨ j = 6 ∨ j = 7 ∨ j = 8 ∨ j = 9 ∨ j = 10 := by omega
  simp [e0, e1, e2, e6, o1, x1, binS, m1, m2, m3, m4, m5, m6, fillS, ← hk1', hw, ← hj, Tdf_mu, Tdf_fns]
  clear hj hj1 hw hk1' hk1
  rcases hjc with rfl | rfl | rfl | rfl | rfl | rfl | rfl | rfl | rfl | rfl | rfl
  all_goals simp [e0, o1, D0, D1, D2, D3, D4, D5, D6, D7, D8, D9, D10, F0, F1, SI, O, SS, aw, fillS, Tdf_mu, Tdf_fns]
end Go.Proofs.YtgdpephlpdonnaaGreatDoor
