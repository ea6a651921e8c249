/-
  What decimal's Show, plain and Exact compute. No conditions beyond the lemmas' own hypotheses.
-/
import Derived.Test.YtgdpephlpdonnaaGreatDoorDecB
set_option linter.unusedSimpArgs false
set_option linter.unusedVariables false
set_option linter.constructorNameAsVariable false

/-
  decimal: Show.
-/
namespace Go.Proofs.YtgdpephlpdonnaaGreatDoor
open Go Go.Abs Go.Limbs
variable {base : Prot}
set_option maxRecDepth 20000
attribute [local irreducible] vc
attribute [local simp] pureS touchV freezeL fuel shiftV u64 au
def showN (a d : Nat) : List UInt8 := if d = 1 then Lib.decDigits a ++ [46, 48] else [40, 47, 32] ++ Lib.decDigits a ++ [46, 48, 32] ++ Lib.decDigits d ++ [46, 48, 41]
def showQ (q : Rat) : List UInt8 := if q.num < 0 then [40, 45, 32] ++ showN q.num.natAbs q.den ++ [41] else showN q.num.natAbs q.den
def showF (x : Fr) : PVal := .str (if x.ok then showQ x.q else [])
/-- Of what has no sign ahead. -/
def sShow0 : List PVal → Option PVal
  | [a] => match decF a with | some x => if x.ok ∧ x.s = false then some (.str (showN (val x.n) (val x.d))) else none | none => none
  | _ => none
theorem sShow0_num {q : Rat} (h : Sm 64 q) (h0 : ¬ q.num < 0) : sShow0 [(ofQ q).enc] = some (.str (showN q.num.natAbs q.den)) := by
  simp only [sShow0, decF_enc (wf_ofQ q)]
  rw [if_pos ⟨ok_ofQ h, decide_eq_false h0⟩]
  show some (PVal.str (showN (val (limbs q.num.natAbs)) (val (limbs q.den)))) = _
  rw [val_limbs, val_limbs]
def Tsh : Tab := ((((Tab.none.with 35 (pureS (f1 boolF))).with 40 (pureS sOf)).with 46 (pureS sOrder)).with 38 (pureS sText)).with 45 (pureS (f1 negP))
theorem Tsh_ok : TabOk Tryz.prog base2 Tsh := Tab.with_ok (Tab.with_ok (Tab.with_ok (Tab.with_ok (Tab.with_ok Tab.none_ok qvalid_ok) of_ok) order_ok) text_ok) qneg_ok
theorem Tsh_mu (f : FuncId) (a : List AVal) (H : Heap) : Tsh.mu f a H = none := (rfl)
theorem Tsh_fns : Tsh.fn 35 = pureS (f1 boolF) ∧ Tsh.fn 40 = pureS sOf ∧ Tsh.fn 46 = pureS sOrder ∧ Tsh.fn 38 = pureS sText ∧ Tsh.fn 45 = pureS (f1 negP) := ⟨rfl, rfl, rfl, rfl, rfl⟩
theorem showN_walk {T : Tab} (hmu : ∀ f a H, T.mu f a H = none) (hv : T.fn 35 = pureS (f1 boolF)) (ho : T.fn 40 = pureS sOf) (hd : T.fn 46 = pureS sOrder) (ht : T.fn 38 = pureS sText)
    {p : Rat} (hp : Sm 64 p) (h0 : ¬ p.num < 0) : vc T lf12.body (endQ T lf12.results (.str (showN p.num.natAbs p.den))) (initFr ([(ofQ p).enc].map AVal.p)) [] := by
  have v1 := vF (wf_ofQ p)
  rw [ok_ofQ hp] at v1
  have o1 := sOf_one
  have hpd := hp.2
  have c1 : sOrder [.lst ((ofQ p).d.map u64), .lst [.int .u64 1]] = some (.int .i64 (cmpI p.den 1)) := sOrder_one (n := p.den) (by omega)
  have e1 := cmpI_one (n := p.den)
  have t1 : sText [.lst ((ofQ p).n.map u64)] = some (.str (Lib.decDigits p.num.natAbs)) := sText_num hp.1
  have t2 : sText [.lst ((ofQ p).d.map u64)] = some (.str (Lib.decDigits p.den)) := sText_num hp.2
  have L1 := dec_1280 hp.1
  have L2 := dec_1280 hp.2
  have hs : (ofQ p).s = false := decide_eq_false h0
  obtain ⟨r, hr⟩ : ∃ r, r = cmpI p.den 1 := ⟨_, rfl⟩
  rw [← hr] at c1 e1
  unfold showN
  obtain ⟨A, hA⟩ : ∃ t, t = Lib.decDigits p.num.natAbs := ⟨_, rfl⟩
  obtain ⟨D, hD⟩ : ∃ t, t = Lib.decDigits p.den := ⟨_, rfl⟩
  rw [← hA] at t1 L1 ⊢
  rw [← hD] at t2 L2 ⊢
  have m1 : A.length + 2 ≤ maxLen := by unfold maxLen; omega
  have m2 : 3 + A.length ≤ maxLen := by unfold maxLen; omega
  have m3 : A.length + 1 + 1 + 1 + 3 ≤ maxLen := by unfold maxLen; omega
  have m4 : A.length + 3 + 1 + 1 + 1 + D.length ≤ maxLen := by unfold maxLen; omega
  have m5 : A.length + (D.length + 1 + 1 + 1) + 1 + 1 + 1 + 3 ≤ maxLen := by unfold maxLen; omega
  simp only [Fr.enc, hs] at v1 ⊢
  by_cases hd1 : p.den = 1
  · rw [if_pos hd1]
    rw [decide_eq_true hd1] at e1
    simp [lf12, v1, o1, c1, e1, t1, binS, m1, hmu, hv, ho, hd, ht]
  · rw [if_neg hd1]
    rw [decide_eq_false hd1] at e1
    simp [lf12, v1, o1, c1, e1, t1, t2, binS, m1, m2, m3, m4, m5, hmu, hv, ho, hd, ht]
theorem dshow0_ok : FnOk Tryz.prog base2 12 (pureS sShow0) := by
  refine pure_of_vc hmix Tsh_ok globNone low12 fun args z hs hf => ?_
  unfold sShow0 at hs
  split at hs
  case h_2 => cases hs
  rename_i v
  split at hs
  case h_2 => cases hs
  rename_i x hx
  obtain ⟨rfl, wx⟩ := decF_some hx
  split at hs
  case isFalse => cases hs
  rename_i hc
  cases hs
  obtain ⟨p, hp, rfl⟩ := Fr.ok_of hc.1
  refine ⟨by simp [lf12], ?_⟩
  have h0 : ¬ p.num < 0 := of_decide_eq_false hc.2
  have e : showN (val (ofQ p).n) (val (ofQ p).d) = showN p.num.natAbs p.den := by
    show showN (val (limbs p.num.natAbs)) (val (limbs p.den)) = _
    rw [val_limbs, val_limbs]
  rw [e]
  exact showN_walk Tsh_mu Tsh_fns.1 Tsh_fns.2.1 Tsh_fns.2.2.1 Tsh_fns.2.2.2.1 hp h0
def Tsh2 : Tab := Tsh.with 12 (pureS sShow0)
theorem Tsh2_ok : TabOk Tryz.prog base2 Tsh2 := Tab.with_ok Tsh_ok dshow0_ok
theorem Tsh2_mu (f : FuncId) (a : List AVal) (H : Heap) : Tsh2.mu f a H = none := (rfl)
theorem Tsh2_fns : Tsh2.fn 35 = pureS (f1 boolF) ∧ Tsh2.fn 40 = pureS sOf ∧ Tsh2.fn 46 = pureS sOrder ∧ Tsh2.fn 38 = pureS sText ∧ Tsh2.fn 45 = pureS (f1 negP) ∧ Tsh2.fn 12 = pureS sShow0 := ⟨rfl, rfl, rfl, rfl, rfl, rfl⟩
theorem showN_len {a d : Nat} (ha : len a ≤ 64) (hd : len d ≤ 64) : (showN a d).length ≤ 3000 := by
  have h1 := dec_1280 ha
  have h2 := dec_1280 hd
  unfold showN
  split <;> simp <;> omega
theorem dshow_ok : FnOk Tryz.prog base2 12 (pureS (f1 showF)) := by
  refine pure_of_vc hmix Tsh2_ok globNone low12 fun args z hs hf => ?_
  obtain ⟨x, wx, rfl, rfl⟩ := f1_some hs
  refine ⟨by simp [lf12], ?_⟩
  have v1 := vF wx
  unfold showF
  cases ox : x.ok with
  | false => rw [ox] at v1; simp only [Fr.enc] at v1 ⊢; simp [lf12, v1, Tsh2_mu, Tsh2_fns]
  | true =>
    rw [ox] at v1
    obtain ⟨p, hp, rfl⟩ := Fr.ok_of ox
    rw [if_pos rfl, q_ofQ]
    unfold showQ
    by_cases h0 : p.num < 0
    · rw [if_pos h0]
      have N := negP_num hp
      have hn : ¬ (-p).num < 0 := by rw [Rat.neg_num]; omega
      have S := sShow0_num (Sm_neg hp) hn
      rw [Rat.neg_num, Rat.neg_den, Int.natAbs_neg] at S
      have L := showN_len hp.1 hp.2
      obtain ⟨A, hA⟩ : ∃ t, t = showN p.num.natAbs p.den := ⟨_, rfl⟩
      rw [← hA] at S L ⊢
      have m1 : 3 + A.length ≤ maxLen := by unfold maxLen; omega
      have m2 : A.length + 1 + 1 + 1 ≤ maxLen := by unfold maxLen; omega
      have m3 : A.length + 1 + 1 + 1 + 1 ≤ maxLen := by unfold maxLen; omega
      have m4 : A.length + 1 ≤ maxLen := by unfold maxLen; omega
      have hsg : (ofQ p).s = true := decide_eq_true h0
      obtain ⟨m, hm⟩ : ∃ m, m = -p := ⟨_, rfl⟩
      rw [← hm] at N S
      simp only [Fr.enc, hsg] at v1 N S ⊢
      simp [lf12, v1, N, S, binS, m1, m2, m3, m4, Tsh2_mu, Tsh2_fns]
    · rw [if_neg h0]
      exact showN_walk Tsh2_mu Tsh2_fns.1 Tsh2_fns.2.1 Tsh2_fns.2.2.1 Tsh2_fns.2.2.2.1 hp h0
end Go.Proofs.YtgdpephlpdonnaaGreatDoor

/-
  decimal: which denominators are of twos and fives.
-/
namespace Go.Proofs.YtgdpephlpdonnaaGreatDoor
open Go Go.Abs Go.Limbs
variable {base : Prot}
set_option maxRecDepth 20000
attribute [local irreducible] vc
attribute [local simp] pureS touchV freezeL fuel shiftV u64 au
/-- A number without its factors p. -/
def strip (p : Nat) : Nat → Nat → Nat
  | 0, n => n
  | f + 1, n => if n % p = 0 then strip p f (n / p) else n
theorem strip_pos {p : Nat} (hp : 2 ≤ p) : ∀ (f n : Nat), 0 < n → 0 < strip p f n
  | 0, n, h => h
  | f + 1, n, h => by
    unfold strip
    split
    · rename_i hd
      have h1 : p ≤ n := Nat.le_of_dvd h (Nat.dvd_of_mod_eq_zero hd)
      exact strip_pos hp f _ (Nat.div_pos h1 (by omega))
    · exact h
theorem strip_le {p : Nat} : ∀ (f n : Nat), strip p f n ≤ n
  | 0, n => Nat.le_refl _
  | f + 1, n => by
    unfold strip
    split
    · exact Nat.le_trans (strip_le f _) (Nat.div_le_self _ _)
    · exact Nat.le_refl _
/-- It is the number by a power of p. -/
theorem strip_pow {p : Nat} : ∀ (f n : Nat), ∃ k, n = p ^ k * strip p f n
  | 0, n => ⟨0, by rw [Nat.pow_zero, Nat.one_mul]; rfl⟩
  | f + 1, n => by
    unfold strip
    split
    · rename_i hd
      obtain ⟨k, hk⟩ := strip_pow f (n / p)
      refine ⟨k + 1, ?_⟩
      rw [Nat.pow_succ, Nat.mul_comm (p ^ k), Nat.mul_assoc, ← hk]
      exact (Nat.mul_div_cancel' (Nat.dvd_of_mod_eq_zero hd)).symm
    · exact ⟨0, by rw [Nat.pow_zero, Nat.one_mul]⟩
def plainN (n : Nat) : Bool := decide (strip 5 (strip 2 n n) (strip 2 n n) = 1)
def sPlain : List PVal → Option PVal
  | [.lst xs] => match decN xs with | some n => if n ≠ 0 ∧ len n ≤ 64 then some (.bool (plainN n)) else none | none => none
  | _ => none
theorem sPlain_num {n : Nat} (h0 : n ≠ 0) (h : len n ≤ 64) : sPlain [.lst ((limbs n).map u64)] = some (.bool (plainN n)) := by
  simp only [sPlain, decN_num (show len n ≤ 100000 by omega)]
  rw [if_pos ⟨h0, h⟩]
def Tpl : Tab := ((Tab.none.with 40 (pureS sOf)).with 37 (pureS sQuot)).with 46 (pureS sOrder)
theorem Tpl_ok : TabOk Tryz.prog base Tpl := Tab.with_ok (Tab.with_ok (Tab.with_ok Tab.none_ok of_ok) quot_ok) order_ok
theorem Tpl_mu (f : FuncId) (a : List AVal) (H : Heap) : Tpl.mu f a H = none := (rfl)
theorem Tpl_fns : Tpl.fn 40 = pureS sOf ∧ Tpl.fn 37 = pureS sQuot ∧ Tpl.fn 46 = pureS sOrder := ⟨rfl, rfl, rfl⟩
theorem sOf_nat {p : Nat} (h0 : p ≠ 0) (h : p < 1000) : sOf [.int .i64 (p : Int)] = some (.lst ((limbs p).map u64)) := by
  have h1 : sOf [.int .i64 (p : Int)] = some (.lst ((ofL (p : Int)).map u64)) := rfl
  rw [h1, ofL_num (by omega) (by omega), Int.natAbs_natCast]
theorem len_small {p : Nat} (h : p < 1000) : len p ≤ 1 := len_le (by rw [Nat.pow_one, B_lit]; omega)
def mOf (v : AVal) : Nat := match v with
  | .p (.lst xs) => (decN xs).getD 0
  | _ => 0
theorem mOf_num {m : Nat} (h : len m ≤ 100000) : mOf (.p (.lst ((limbs m).map u64))) = m := by
  simp only [mOf, decN_num h]
  rfl
theorem strip_loop {p n : Nat} (hp2 : 2 ≤ p) (hp : p < 1000) (hn : 0 < n) (hl : len n ≤ 64) {H : Heap} {Q : LExit → AFr → Heap → Prop} {fr : AFr} (h0 : fr 0 = .p (.lst ((limbs n).map u64))) (h4 : fr 4 = .p (.int .i64 (p : Int)))
    (hq : ∀ fr' : AFr, fr' 0 = .p (.lst ((limbs (strip p n n)).map u64)) → fr' 7 = fr 7 → fr' 8 = fr 8 → fr' 9 = fr 9 → Q .normal fr' H) : vc Tpl lf36_B0 Q fr H := by
  simp only [lf36_B0, vc_block]
  refine loop_ind (fun fr2 H2 => H2 = H ∧ fr2 4 = .p (.int .i64 (p : Int)) ∧ fr2 7 = fr 7 ∧ fr2 8 = fr 8 ∧ fr2 9 = fr 9 ∧ ∃ f m, 0 < m ∧ len m ≤ 64 ∧ m ≤ f ∧ strip p f m = strip p n n ∧ fr2 0 = .p (.lst ((limbs m).map u64))) (fun fr2 _ => mOf (fr2 0))
    ⟨rfl, h4, rfl, rfl, rfl, n, n, hn, hl, Nat.le_refl _, rfl, h0⟩ ?_
  rintro fr2 H2 ⟨rfl, g4, g7, g8, g9, f, m, m0, ml, mf, ms, g0⟩
  have o := sOf_nat (p := p) (by omega) hp
  have q := sQuot_num (a := m) (b := p) (by omega) (Nat.le_trans (len_small hp) (by omega)) (by omega)
  obtain ⟨f', rfl⟩ : ∃ f', f = f' + 1 := ⟨f - 1, by omega⟩
  have hdl : len (m / p) ≤ 64 := Nat.le_trans (len_mono (Nat.div_le_self _ _)) ml
  by_cases hd : m % p = 0
  · have hs : strip p (f' + 1) m = strip p f' (m / p) := by
      rw [strip, if_pos hd]
    rw [hs] at ms
    rw [hd, limbs_zero] at q
    have h1 : p ≤ m := Nat.le_of_dvd m0 (Nat.dvd_of_mod_eq_zero hd)
    have h2 : m / p < m := Nat.div_lt_self m0 (by omega)
    have h3 : 0 < m / p := Nat.div_pos h1 (by omega)
    have e1 := mOf_num (m := m) (by omega)
    have e2 := mOf_num (m := m / p) (by omega)
    obtain ⟨k, hk⟩ : ∃ k, k = m / p := ⟨_, rfl⟩
    rw [← hk] at q ms h2 h3 e2 hdl
    have e1' : mOf (fr2 0) = m := by rw [g0]; exact e1
    simp [g0, g4, g7, g8, g9, o, q, Tpl_mu, Tpl_fns]
    refine ⟨⟨f', k, h3, hdl, by omega, ms, rfl⟩, ?_⟩
    rw [e2, e1]
    exact h2
  · have hs : strip p (f' + 1) m = m := by
      rw [strip, if_neg hd]
    rw [hs] at ms
    have hr : 0 < (limbs (m % p)).length := by
      have : (limbs (m % p)).length ≠ 0 := fun e => hd (len_eq_zero.1 e)
      omega
    obtain ⟨r, hrr⟩ : ∃ r, r = limbs (m % p) := ⟨_, rfl⟩
    obtain ⟨k, hk⟩ : ∃ k, k = m / p := ⟨_, rfl⟩
    rw [← hrr] at q hr
    rw [← hk] at q
    simp [g0, g4, g7, g8, g9, o, q, hr, Tpl_mu, Tpl_fns]
    exact hq _ (by simp [g0, ms]) (by simp [g7]) (by simp [g8]) (by simp [g9])
theorem dplain_ok : FnOk Tryz.prog base 36 (pureS sPlain) := by
  refine pure_of_vc hmix Tpl_ok globNone low36 fun args z hs hf => ?_
  unfold sPlain at hs
  split at hs
  case h_2 => cases hs
  rename_i xs
  split at hs
  case h_2 => cases hs
  rename_i n hn
  split at hs
  case isFalse => cases hs
  rename_i hc
  obtain ⟨rfl, _⟩ := decN_some hn
  cases hs
  refine ⟨by simp [lf36], ?_⟩
  obtain ⟨n0, nl⟩ := hc
  have hn0 : 0 < n := by omega
  have s1 := strip_pos (p := 2) (by omega) n n hn0
  have l1 : len (strip 2 n n) ≤ 64 := Nat.le_trans (len_mono (strip_le n n)) nl
  have s2 := strip_pos (p := 5) (by omega) (strip 2 n n) (strip 2 n n) s1
  have l2 : len (strip 5 (strip 2 n n) (strip 2 n n)) ≤ 64 := Nat.le_trans (len_mono (strip_le _ _)) l1
  unfold plainN
  obtain ⟨m, hm⟩ : ∃ m, m = strip 2 n n := ⟨_, rfl⟩
  rw [← hm] at s1 l1 s2 l2 ⊢
  obtain ⟨k, hk⟩ : ∃ k0, k0 = strip 5 m m := ⟨_, rfl⟩
  rw [← hk] at s2 l2 ⊢
  simp [lf36, fillS, Tpl_mu, Tpl_fns]
  simp only [lf36_B1, vc_block]
  refine loop_ind (fun fr2 H2 => H2 = [⟨1, 0, false, [.p (.int .i64 2), .p (.int .i64 5)], 3⟩] ∧ fr2 7 = .own 0 0 2 0 ∧ fr2 8 = .p (.int .i64 2) ∧ ((fr2 9 = .p (.int .i64 0) ∧ fr2 0 = .p (.lst ((limbs n).map u64))) ∨ (fr2 9 = .p (.int .i64 1) ∧ fr2 0 = .p (.lst ((limbs m).map u64))) ∨ (fr2 9 = .p (.int .i64 2) ∧ fr2 0 = .p (.lst ((limbs k).map u64)))))
    (fun fr2 _ => 2 - ivar (fr2 9)) ⟨rfl, by simp, by simp, .inl ⟨by simp, by simp⟩⟩ ?_
  have w1 : IntKind.i64.wrap (0 + 1) = 1 := rfl
  have w2 : IntKind.i64.wrap (1 + 1) = 2 := rfl
  have w1' : IntKind.i64.wrap 1 = 1 := rfl
  have w2' : IntKind.i64.wrap 2 = 2 := rfl
  rintro fr2 H2 ⟨rfl, g7, g8, ⟨g9, g0⟩ | ⟨g9, g0⟩ | ⟨g9, g0⟩⟩
  · simp [g7, g8, g9, g0]
    refine strip_loop (p := 2) (n := n) (by omega) (by omega) hn0 nl (by simp [g0]) (by simp) fun fr3 k0 k7 k8 k9 => ?_
    rw [← hm] at k0
    simp [g7, g8, g9, k0, k7, k8, k9, w1, w1', ivar]
  · simp [g7, g8, g9, g0]
    refine strip_loop (p := 5) (n := m) (by omega) (by omega) s1 l1 (by simp [g0]) (by simp) fun fr3 k0 k7 k8 k9 => ?_
    rw [← hk] at k0
    simp [g7, g8, g9, k0, k7, k8, k9, w2, w2', ivar]
  · have o := sOf_one
    have c := sOrder_one (n := k) (by omega)
    have e := cmpI_one (n := k)
    obtain ⟨r, hr⟩ : ∃ r, r = cmpI k 1 := ⟨_, rfl⟩
    rw [← hr] at c e
    simp [g7, g8, g9, g0, o, c, e, Tpl_mu, Tpl_fns]
end Go.Proofs.YtgdpephlpdonnaaGreatDoor

/-
  decimal: Exact.
-/
namespace Go.Proofs.YtgdpephlpdonnaaGreatDoor
open Go Go.Abs Go.Limbs
variable {base : Prot}
set_option maxRecDepth 20000
attribute [local irreducible] vc
attribute [local simp] pureS touchV freezeL fuel shiftV u64 au
/-! ### Twos and fives -/
theorem plain_pow {d : Nat} (h : plainN d = true) : ∃ a b, d = 2 ^ a * 5 ^ b := by
  unfold plainN at h
  have h := of_decide_eq_true h
  obtain ⟨a, ha⟩ := strip_pow (p := 2) d d
  obtain ⟨b, hb⟩ := strip_pow (p := 5) (strip 2 d d) (strip 2 d d)
  rw [h, Nat.mul_one] at hb
  rw [hb] at ha
  exact ⟨a, b, ha⟩
theorem pow_dvd10 {a b k : Nat} (ha : a ≤ k) (hb : b ≤ k) : 2 ^ a * 5 ^ b ∣ 10 ^ k := by
  rw [show (10 : Nat) = 2 * 5 from rfl, Nat.mul_pow]
  exact Nat.mul_dvd_mul (Nat.pow_dvd_pow 2 ha) (Nat.pow_dvd_pow 5 hb)
theorem B64_pow' (k m : Nat) (h : k = m * m) (e : B = 2 ^ m) : B ^ m = 2 ^ k := by rw [h, Nat.pow_mul, ← e]
theorem B64_pow : B ^ 64 = 2 ^ 4096 := B64_pow' 4096 64 (by decide) (by rw [B_lit])
theorem plain_dvd {d : Nat} (h0 : d ≠ 0) (hl : len d ≤ 64) (h : plainN d = true) : d ∣ 10 ^ 4096 := by
  obtain ⟨a, b, rfl⟩ := plain_pow h
  have hlt : 2 ^ a * 5 ^ b < 2 ^ 4096 := by
    rw [← B64_pow]
    exact Nat.lt_of_lt_of_le (lt_len _) (Bpow_le hl)
  have p1 : 0 < 2 ^ a := Nat.pow_pos (by decide)
  have p2 : 0 < 5 ^ b := Nat.pow_pos (by decide)
  have h1 : 2 ^ a < 2 ^ 4096 := Nat.lt_of_le_of_lt (Nat.le_mul_of_pos_right _ p2) hlt
  have h2 : 5 ^ b < 2 ^ 4096 := Nat.lt_of_le_of_lt (Nat.le_mul_of_pos_left _ p1) hlt
  have h3 : 2 ^ b ≤ 5 ^ b := Nat.pow_le_pow_left (by decide) b
  have a1 := (Nat.pow_lt_pow_iff_right (a := 2) (by decide)).1 h1
  have b1 := (Nat.pow_lt_pow_iff_right (a := 2) (by decide)).1 (Nat.lt_of_le_of_lt h3 h2)
  exact pow_dvd10 (k := 4096) (Nat.le_of_lt a1) (Nat.le_of_lt b1)
/-! ### The digits behind the point -/
def expand (d : Nat) : Nat → Nat → List UInt8
  | 0, _ => []
  | f + 1, r => if r = 0 then [] else digit (r * 10 / d) :: expand d f (r * 10 % d)
theorem expand_zero (d : Nat) : ∀ f, expand d f 0 = []
  | 0 => rfl
  | f + 1 => by rw [expand, if_pos rfl]
theorem expand_step {d f r : Nat} (h : r ≠ 0) : expand d (f + 1) r = digit (r * 10 / d) :: expand d f (r * 10 % d) := by rw [expand, if_neg h]
theorem dvd_step {d k r : Nat} (h : d ∣ 10 ^ (k + 1) * r) : d ∣ 10 ^ k * (r * 10 % d) := by
  have e : 10 ^ (k + 1) * r = 10 ^ k * (r * 10) := by rw [Nat.pow_succ, Nat.mul_assoc, Nat.mul_comm 10 r]
  rw [e] at h
  have hm := Nat.div_add_mod (r * 10) d
  have h2 : d ∣ 10 ^ k * (d * (r * 10 / d)) := ⟨10 ^ k * (r * 10 / d), by rw [← Nat.mul_assoc, Nat.mul_comm (10 ^ k) d, Nat.mul_assoc]⟩
  have h3 : 10 ^ k * (r * 10) = 10 ^ k * (d * (r * 10 / d)) + 10 ^ k * (r * 10 % d) := by rw [← Nat.mul_add, hm]
  rw [h3] at h
  exact (Nat.dvd_add_right h2).1 h
theorem dvd_zero {d r : Nat} (h : d ∣ 10 ^ 0 * r) (hr : r < d) : r = 0 := by
  rw [Nat.pow_zero, Nat.one_mul] at h
  exact Nat.eq_zero_of_dvd_of_lt h hr
theorem expand_len {d : Nat} : ∀ (f k r : Nat), r < d → d ∣ 10 ^ k * r → (expand d f r).length ≤ k
  | 0, _, _, _, _ => Nat.zero_le _
  | f + 1, k, r, hr, hd => by
    by_cases h0 : r = 0
    · rw [expand, if_pos h0]; exact Nat.zero_le _
    · cases k with
      | zero => exact absurd (dvd_zero hd hr) h0
      | succ k =>
        rw [expand_step h0, List.length_cons]
        have := expand_len f k _ (Nat.mod_lt (r * 10) (by omega)) (dvd_step hd)
        omega
def exactT (a d : Nat) : List UInt8 := Lib.decDigits (a / d) ++ [46] ++ (if a % d = 0 then [48] else expand d 4096 (a % d))
def exactF (x : Fr) : List UInt8 × Bool := if x.ok && !x.s && plainN (val x.d) then (exactT (val x.n) (val x.d), true) else ([], false)
def exactP (x : Fr) : PVal := .tup [.str (exactF x).1, .bool (exactF x).2]
def Tex : Tab := (((((Tab.none.with 35 (pureS (f1 boolF))).with 36 (pureS sPlain)).with 37 (pureS sQuot)).with 38 (pureS sText)).with 40 (pureS sOf)).with 39 (pureS sTimes)
theorem Tex_ok : TabOk Tryz.prog base2 Tex := Tab.with_ok (Tab.with_ok (Tab.with_ok (Tab.with_ok (Tab.with_ok (Tab.with_ok Tab.none_ok qvalid_ok) dplain_ok) quot_ok) text_ok) of_ok) times_ok
theorem Tex_mu (f : FuncId) (a : List AVal) (H : Heap) : Tex.mu f a H = none := (rfl)
theorem Tex_fns : Tex.fn 35 = pureS (f1 boolF) ∧ Tex.fn 36 = pureS sPlain ∧ Tex.fn 37 = pureS sQuot ∧ Tex.fn 38 = pureS sText ∧ Tex.fn 40 = pureS sOf ∧ Tex.fn 39 = pureS sTimes := ⟨rfl, rfl, rfl, rfl, rfl, rfl⟩
def slen (v : AVal) : Nat := match v with
  | .p (.str s) => s.length
  | _ => 0
theorem dexact_ok : FnOk Tryz.prog base2 9 (pureS (f1 exactP)) := by
  refine pure_of_vc hmix Tex_ok globNone low9 fun args z hs hf => ?_
  obtain ⟨x, wx, rfl, rfl⟩ := f1_some hs
  refine ⟨by simp [lf9], ?_⟩
  have v1 := vF wx
  unfold exactP exactF
  cases ox : x.ok with
  | false => rw [ox] at v1; simp only [Fr.enc] at v1 ⊢; simp [lf9, v1, Tex_mu, Tex_fns]
  | true =>
    rw [ox] at v1
    obtain ⟨p, hp, rfl⟩ := Fr.ok_of ox
    cases hsg : (ofQ p).s with
    | true => simp only [Fr.enc, hsg] at v1 ⊢; simp [lf9, v1, Tex_mu, Tex_fns]
    | false =>
      have pl : sPlain [.lst ((ofQ p).d.map u64)] = some (.bool (plainN p.den)) := sPlain_num p.den_nz hp.2
      have ed : val (ofQ p).d = p.den := val_limbs _
      have en : val (ofQ p).n = p.num.natAbs := val_limbs _
      rw [ed, en]
      cases hpl : plainN p.den with
      | false => rw [hpl] at pl; simp only [Fr.enc, hsg] at v1 ⊢; simp [lf9, v1, pl, Tex_mu, Tex_fns]
      | true =>
        rw [hpl] at pl
        have hd := plain_dvd p.den_nz hp.2 hpl
        have q1 : sQuot [.lst ((ofQ p).n.map u64), .lst ((ofQ p).d.map u64)] = some (.tup [.lst ((limbs (p.num.natAbs / p.den)).map u64), .lst ((limbs (p.num.natAbs % p.den)).map u64)]) := sQuot_num (by have := hp.1; omega) (by have := hp.2; omega) p.den_nz
        have hq64 : len (p.num.natAbs / p.den) ≤ 64 := Nat.le_trans (len_mono (Nat.div_le_self _ _)) hp.1
        have t1 := sText_num hq64
        have L1 := dec_1280 hq64
        unfold exactT
        obtain ⟨A, hA⟩ : ∃ t, t = Lib.decDigits (p.num.natAbs / p.den) := ⟨_, rfl⟩
        obtain ⟨qq, hqq⟩ : ∃ t, t = p.num.natAbs / p.den := ⟨_, rfl⟩
        rw [← hA] at t1 L1 ⊢
        rw [← hqq] at t1 q1
        have m1 : A.length + 1 ≤ maxLen := by unfold maxLen; omega
        have m2 : A.length + 1 + 1 ≤ maxLen := by unfold maxLen; omega
        have hr : p.num.natAbs % p.den < p.den := Nat.mod_lt _ p.den_pos
        obtain ⟨r, hrr⟩ : ∃ t, t = p.num.natAbs % p.den := ⟨_, rfl⟩
        rw [← hrr] at q1 hr ⊢
        by_cases r0 : r = 0
        · subst r0
          rw [limbs_zero] at q1
          simp only [List.map_nil] at q1
          simp only [Fr.enc, hsg] at v1 ⊢
          simp [lf9, v1, pl, q1, t1, binS, m1, m2, Tex_mu, Tex_fns]
        · have hrl : len r ≠ 0 := fun e => r0 (len_eq_zero.1 e)
          have hrl' : ((limbs r).length : Int) ≠ 0 := by have : (limbs r).length = len r := rfl; omega
          have hrb : (((limbs r).length : Int) == 0) = false := beq_false_of_ne hrl'
          rw [if_neg r0]
          have hlen := expand_len (d := p.den) 4096 4096 r hr (by
            obtain ⟨c, hc⟩ := hd
            exact ⟨c * r, by rw [hc, Nat.mul_assoc]⟩)
          have hdd : p.den ∣ 10 ^ 4096 * r := by
            obtain ⟨c, hc⟩ := hd
            exact ⟨c * r, by rw [hc, Nat.mul_assoc]⟩
          obtain ⟨OUT, hOUT⟩ : ∃ o, o = A ++ [46] ++ expand p.den 4096 r := ⟨_, rfl⟩
          have hOL : OUT.length ≤ 6000 := by
            rw [hOUT]
            simp
            omega
          rw [← hOUT]
          simp only [Fr.enc, hsg] at v1 ⊢
          simp [lf9, v1, pl, q1, t1, binS, m1, hrb, Tex_mu, Tex_fns]
          simp only [lf9_B0, vc_block]
          refine loop_ind (fun fr2 H2 => H2 = [⟨3, 0, false, [.p (.agg [.bool false, .lst ((ofQ p).n.map u64), .lst ((ofQ p).d.map u64)])], 24⟩] ∧ fr2 1 = .optr 0 0 0 0 ∧ ∃ f r out, r < p.den ∧ p.den ∣ 10 ^ f * r ∧ out ++ expand p.den f r = OUT ∧ fr2 5 = .p (.lst ((limbs r).map u64)) ∧ fr2 6 = .p (.str out))
            (fun fr2 _ => OUT.length - slen (fr2 6)) ⟨rfl, by simp, 4096, r, A ++ [46], hr, hdd, hOUT.symm, by simp, by simp⟩ ?_
          rintro fr2 H2 ⟨rfl, g1, f, r2, out, hr2, hd2, hO, g5, g6⟩
          by_cases z : r2 = 0
          · subst z
            rw [expand_zero, List.append_nil] at hO
            rw [limbs_zero] at g5
            simp only [List.map_nil] at g5
            simp [g1, g5, g6, hO]
          · obtain ⟨f', rfl⟩ : ∃ f', f = f' + 1 := by
              cases f with
              | zero => exact absurd (dvd_zero hd2 hr2) z
              | succ f => exact ⟨f, rfl⟩
            have l2 : len r2 ≤ 64 := Nat.le_trans (len_mono (Nat.le_of_lt hr2)) hp.2
            have l10 : len 10 ≤ 1 := len_small (by decide)
            have l210 := len_mul r2 10
            have o := sOf_nat (p := 10) (by decide) (by decide)
            have T := sTimes_num (a := r2) (b := 10) (by omega) (by omega)
            have Q : sQuot [.lst ((limbs (r2 * 10)).map u64), .lst ((ofQ p).d.map u64)] = some (.tup [.lst ((limbs (r2 * 10 / p.den)).map u64), .lst ((limbs (r2 * 10 % p.den)).map u64)]) := sQuot_num (by omega) (by have := hp.2; omega) p.den_nz
            have hq10 : r2 * 10 / p.den < 10 := Nat.div_lt_of_lt_mul (by omega)
            have X : sText [.lst ((limbs (r2 * 10 / p.den)).map u64)] = some (.str [digit (r2 * 10 / p.den)]) := by
              have h := sText_num (a := r2 * 10 / p.den) (Nat.le_trans (len_small (by omega)) (by omega))
              rw [Lib.decDigits_one hq10] at h
              exact h
            rw [expand_step z] at hO
            have hlO : OUT.length = out.length + 1 + (expand p.den f' (r2 * 10 % p.den)).length := by rw [← hO]; simp; omega
            have hr3 : r2 * 10 % p.den < p.den := Nat.mod_lt _ p.den_pos
            have hd3 := dvd_step hd2
            obtain ⟨q3, hq3⟩ : ∃ q, q = r2 * 10 / p.den := ⟨_, rfl⟩
            obtain ⟨r3, hr3'⟩ : ∃ q, q = r2 * 10 % p.den := ⟨_, rfl⟩
            rw [← hq3] at Q X hO
            rw [← hr3'] at Q hr3 hd3 hO hlO
            obtain ⟨c3, hc3⟩ : ∃ c, c = digit q3 := ⟨_, rfl⟩
            rw [← hc3] at X hO
            have z' : (limbs r2).length ≠ 0 := fun e => z (len_eq_zero.1 e)
            have zp : 0 < (limbs r2).length := by omega
            obtain ⟨Lr, hLr⟩ : ∃ l, l = limbs r2 := ⟨_, rfl⟩
            rw [← hLr] at g5 T zp
            have o' : sOf [.int .i64 10] = some (.lst ((limbs 10).map u64)) := o
            have m3 : out.length + 1 ≤ maxLen := by unfold maxLen; omega
            simp [g1, g5, g6, zp, o', T, Q, X, binS, m3, Tex_mu, Tex_fns]
            refine ⟨⟨f', r3, hr3, hd3, hO, rfl⟩, ?_⟩
            simp [slen]
            omega
end Go.Proofs.YtgdpephlpdonnaaGreatDoor
