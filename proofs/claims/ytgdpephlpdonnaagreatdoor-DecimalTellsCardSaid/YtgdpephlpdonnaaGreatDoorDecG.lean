/-
  The reference's reading of decimals, terms and exact decimals: the plain laws. No conditions beyond the lemmas' own hypotheses.
-/
import Derived.Test.YtgdpephlpdonnaaGreatDoorDecF
set_option linter.unusedSimpArgs false
set_option linter.unusedVariables false
set_option linter.constructorNameAsVariable false

/-
  The reference's decimal: the plain law.
-/
namespace Go.Proofs.YtgdpephlpdonnaaGreatDoor
open Go Go.Abs Go.Limbs Go.Lib
set_option maxRecDepth 20000
def stripC (p : Nat) : Nat → Nat → Nat
  | 0, _ => 0
  | f + 1, n => if n % p = 0 then stripC p f (n / p) + 1 else 0
theorem strip_val (p : Nat) : ∀ (f n : Nat), n = p ^ stripC p f n * strip p f n
  | 0, n => by simp [stripC, strip]
  | f + 1, n => by
    by_cases h : n % p = 0
    · rw [stripC, strip, if_pos h, if_pos h, Nat.pow_succ]
      have ih := strip_val p f (n / p)
      have e := Nat.div_add_mod n p
      rw [h, Nat.add_zero] at e
      have : p ^ stripC p f (n / p) * p * strip p f (n / p) = p * (p ^ stripC p f (n / p) * strip p f (n / p)) := by rw [Nat.mul_comm (p ^ _) p, Nat.mul_assoc]
      rw [this, ← ih]
      exact e.symm
    · rw [stripC, strip, if_neg h, if_neg h]; simp
def e2of (d : Nat) : Nat := stripC 2 d d
def e5of (d : Nat) : Nat := stripC 5 (strip 2 d d) (strip 2 d d)
def places (d : Nat) : Nat := max (e2of d) (e5of d)
theorem plain_val {d : Nat} (h : plainN d = true) : d = 2 ^ e2of d * 5 ^ e5of d := by
  unfold plainN at h
  have h := of_decide_eq_true h
  have e1 := strip_val 2 d d
  have e2 := strip_val 5 (strip 2 d d) (strip 2 d d)
  rw [h, Nat.mul_one] at e2
  unfold e2of e5of
  rw [← e2]
  exact e1
theorem places_dvd {d : Nat} (h : plainN d = true) : d ∣ 10 ^ places d := by
  have := pow_dvd10 (a := e2of d) (b := e5of d) (k := places d) (Nat.le_max_left _ _) (Nat.le_max_right _ _)
  rw [← plain_val h] at this
  exact this
theorem two_le {a l : Nat} (h : 2 ^ a ∣ 10 ^ l) : a ≤ l := by
  have e : (10 : Nat) ^ l = 2 ^ l * 5 ^ l := by rw [← Nat.mul_pow]
  rw [e] at h
  have hc : Nat.Coprime (2 ^ a) (5 ^ l) := Nat.Coprime.pow _ _ (by decide)
  exact (Nat.pow_dvd_pow_iff_le_right (by decide)).1 (hc.dvd_of_dvd_mul_right h)
theorem five_le {a l : Nat} (h : 5 ^ a ∣ 10 ^ l) : a ≤ l := by
  have e : (10 : Nat) ^ l = 2 ^ l * 5 ^ l := by rw [← Nat.mul_pow]
  rw [e] at h
  have hc : Nat.Coprime (5 ^ a) (2 ^ l) := Nat.Coprime.pow _ _ (by decide)
  exact (Nat.pow_dvd_pow_iff_le_right (by decide)).1 (hc.dvd_of_dvd_mul_left h)
theorem places_le {d l : Nat} (h : plainN d = true) (hd : d ∣ 10 ^ l) : places d ≤ l := by
  have e := plain_val h
  refine Nat.max_le.2 ⟨two_le (Nat.dvd_trans ?_ hd), five_le (Nat.dvd_trans ?_ hd)⟩
  · exact ⟨5 ^ e5of d, e⟩
  · exact ⟨2 ^ e2of d, by rw [Nat.mul_comm]; exact e⟩
theorem digit_back {c : UInt8} (h : isD c = true) : digit (c.toNat - 48) = c := by
  unfold isD at h
  simp only [Bool.and_eq_true, decide_eq_true_eq] at h
  have h1 : 48 ≤ c.toNat := h.1
  unfold digit
  rw [show 48 + (c.toNat - 48) = c.toNat by omega, UInt8.ofNat_toNat]
theorem digit_lt {c : UInt8} (h : isD c = true) : c.toNat - 48 < 10 := by
  unfold isD at h
  simp only [Bool.and_eq_true, decide_eq_true_eq] at h
  have h2 : c.toNat < 58 := h.2
  omega
/-- Digits are the padded form of what they say. -/
theorem padD_of : ∀ (n : Nat) (l : List UInt8), l.length = n → l.all isD = true → l = padD n (numD 0 l) ∧ numD 0 l < 10 ^ n
  | 0, l, hl, _ => by
    have : l = [] := List.length_eq_zero_iff.1 hl
    subst this
    exact ⟨rfl, by decide⟩
  | n + 1, l, hl, h => by
    obtain ⟨t, c, rfl⟩ : ∃ t c, l = t ++ [c] := ⟨l.dropLast, l.getLast (by intro e; rw [e] at hl; cases hl), (List.dropLast_concat_getLast _).symm⟩
    rw [List.all_append, Bool.and_eq_true] at h
    have hc : isD c = true := by have := h.2; simpa using this
    have hlen : t.length = n := by simpa using hl
    obtain ⟨i1, i2⟩ := padD_of n t hlen h.1
    have hlt := digit_lt hc
    rw [numD_snoc]
    refine ⟨?_, ?_⟩
    · show _ = padD n ((numD 0 t * 10 + (c.toNat - 48)) / 10) ++ [digit ((numD 0 t * 10 + (c.toNat - 48)) % 10)]
      rw [show (numD 0 t * 10 + (c.toNat - 48)) / 10 = numD 0 t by omega, show (numD 0 t * 10 + (c.toNat - 48)) % 10 = c.toNat - 48 by omega, ← i1, digit_back hc]
    · rw [Nat.pow_succ]; omega
theorem padD_lead : ∀ (k N : Nat), N < 10 ^ k → padD (k + 1) N = 48 :: padD k N
  | 0, N, h => by
    have : N = 0 := by simpa using h
    subst this
    rfl
  | k + 1, N, h => by
    have hr : N / 10 < 10 ^ k := by
      rw [Nat.pow_succ] at h
      exact Nat.div_lt_of_lt_mul (by rw [Nat.mul_comm]; exact h)
    show padD (k + 1) (N / 10) ++ [digit (N % 10)] = 48 :: (padD k (N / 10) ++ [digit (N % 10)])
    rw [padD_lead k _ hr]
    rfl
def padL (n : Nat) (s : List UInt8) : List UInt8 := List.replicate (n - s.length) 48 ++ s
def refT (a d : Nat) : List UInt8 :=
  if places d = 0 then padL 1 (decDigits (a * 10 ^ places d / d)) ++ [46, 48]
  else (padL (places d + 1) (decDigits (a * 10 ^ places d / d))).take ((padL (places d + 1) (decDigits (a * 10 ^ places d / d))).length - places d) ++ [46] ++
    (padL (places d + 1) (decDigits (a * 10 ^ places d / d))).drop ((padL (places d + 1) (decDigits (a * 10 ^ places d / d))).length - places d)
theorem padL_big {n : Nat} {s : List UInt8} (h : n ≤ s.length) : padL n s = s := by
  unfold padL
  rw [Nat.sub_eq_zero_of_le h]
  rfl
theorem refT_eq {a d : Nat} (h0 : d ≠ 0) (hl : len d ≤ 64) (hp : plainN d = true) (hc : Nat.Coprime a d) : refT a d = exactT a d := by
  have hd0 : 0 < d := by omega
  have hdv := places_dvd hp
  unfold refT exactT
  by_cases hz : places d = 0
  · rw [if_pos hz]
    rw [hz, Nat.pow_zero] at hdv
    have hd1 : d = 1 := Nat.dvd_one.1 hdv
    subst hd1
    rw [hz, Nat.pow_zero, Nat.mul_one, Nat.div_one, Nat.mod_one, if_pos rfl, padL_big (List.length_pos_iff.2 (dec_ne _))]
    simp
  · rw [if_neg hz]
    have hr0 : a % d ≠ 0 := by
      intro e
      have h1 : d ∣ a := Nat.dvd_of_mod_eq_zero e
      have h2 : d ∣ Nat.gcd a d := Nat.dvd_gcd h1 (Nat.dvd_refl d)
      rw [hc] at h2
      have hd1 : d = 1 := Nat.dvd_one.1 h2
      apply hz
      have := places_le (l := 0) hp (by rw [hd1]; exact Nat.dvd_refl 1)
      omega
    rw [if_neg hr0]
    have hlt := Nat.mod_lt a hd0
    have hdvr : d ∣ 10 ^ places d * (a % d) := Nat.dvd_trans hdv ⟨_, rfl⟩
    have hp4 : places d ≤ 4096 := places_le hp (plain_dvd h0 hl hp)
    have hdvf : d ∣ 10 ^ 4096 * (a % d) := by
      obtain ⟨c, hc⟩ := plain_dvd h0 hl hp
      exact ⟨c * (a % d), by rw [hc, Nat.mul_assoc]⟩
    have hE := expand_val 4096 (a % d) hlt hdvf
    have hle := expand_len 4096 (places d) (a % d) hlt hdvr
    have hdig := expand_dig 4096 (a % d) hlt
    obtain ⟨E, hEe⟩ : ∃ E, E = expand d 4096 (a % d) := ⟨_, rfl⟩
    rw [← hEe] at hE hle hdig ⊢
    have hco : Nat.Coprime d (a % d) := by
      have : Nat.gcd d (a % d) = Nat.gcd d a := (Nat.gcd_comm _ _).trans (Nat.gcd_rec d a).symm
      unfold Nat.Coprime
      rw [this, Nat.gcd_comm]
      exact hc
    have hge : places d ≤ E.length := places_le hp (hco.dvd_of_dvd_mul_left ⟨numD 0 E, by rw [← hE, Nat.mul_comm]⟩)
    have hlen : E.length = places d := by omega
    obtain ⟨p1, p2⟩ := padD_of (places d) E hlen hdig
    have hN : a * 10 ^ places d / d = a / d * 10 ^ places d + numD 0 E := by
      have e := Nat.div_add_mod a d
      have : a * 10 ^ places d = (a / d * 10 ^ places d + numD 0 E) * d := by
        rw [Nat.add_mul, hE, hlen]
        calc a * 10 ^ places d = (d * (a / d) + a % d) * 10 ^ places d := by rw [e]
          _ = _ := by rw [Nat.add_mul, Nat.mul_comm d, Nat.mul_assoc, Nat.mul_assoc, Nat.mul_comm d]
      rw [this, Nat.mul_div_cancel _ hd0]
    have key : padL (places d + 1) (decDigits (a * 10 ^ places d / d)) = decDigits (a / d) ++ E := by
      rw [hN]
      by_cases hq : a / d = 0
      · rw [hq, Nat.zero_mul, Nat.zero_add]
        have := (pad_dec (places d) (numD 0 E) (Nat.lt_of_lt_of_le p2 (Nat.pow_le_pow_right (by decide) (Nat.le_succ _)))).2
        unfold padL
        rw [this, padD_lead _ _ p2, ← p1, decDigits_one (by decide)]
        rfl
      · have := dec_join (Nat.pos_of_ne_zero hq) (places d) (numD 0 E) p2
        rw [this, ← p1]
        refine padL_big ?_
        have := List.length_pos_iff.2 (dec_ne (a / d))
        rw [List.length_append, hlen]
        omega
    rw [key]
    have e3 : (decDigits (a / d) ++ E).length - places d = (decDigits (a / d)).length := by rw [List.length_append, hlen]; omega
    rw [e3, List.take_left, List.drop_left]
end Go.Proofs.YtgdpephlpdonnaaGreatDoor

/-
  The reference's reading of decimals: the plain law.
-/
namespace Go.Proofs.YtgdpephlpdonnaaGreatDoor
open Go Go.Abs Go.Limbs Go.Lib
set_option maxRecDepth 20000
def parseR2 (s : List UInt8) : Fr × Nat :=
  if numS (cutU 46 s) then
    (if cutB 46 s then (if digS (cutD 46 s) then heldQ (fracS (cutU 46 s) (cutD 46 s)) else (zF, 2)) else heldQ (mkRat (zOf false (numD 0 s)) 1))
  else (zF, 2)
/-- Noughts at the end say nothing. -/
theorem trimR0_pad (D : List UInt8) : ∃ k, D = trimR0 D ++ List.replicate k 48 := by
  unfold trimR0
  have e := List.takeWhile_append_dropWhile (p := (· == 48)) (l := D.reverse)
  refine ⟨(D.reverse.takeWhile (· == 48)).length, ?_⟩
  have h : D.reverse.takeWhile (· == 48) = List.replicate (D.reverse.takeWhile (· == 48)).length 48 := by
    generalize D.reverse = l
    induction l with
    | nil => rfl
    | cons c r ih =>
      by_cases hc : c = 48
      · subst hc
        simp only [List.takeWhile_cons, beq_self_eq_true, if_true, List.length_cons, List.replicate_succ]
        rw [← ih]
      · simp [List.takeWhile_cons, hc]
  have e2 := congrArg List.reverse e
  rw [List.reverse_append, List.reverse_reverse] at e2
  rw [← List.reverse_replicate, ← h]
  exact e2.symm
theorem fracS_trim (U D : List UInt8) : fracS U (trimR0 D) = fracS U D := by
  obtain ⟨k, hk⟩ := trimR0_pad D
  generalize trimR0 D = T at hk ⊢
  subst hk
  unfold fracS
  rw [Rat.mkRat_eq_iff (pow10_ne _) (pow10_ne _)]
  have e : numD 0 (U ++ (T ++ List.replicate k 48)) = numD 0 (U ++ T) * 10 ^ k := by
    rw [← List.append_assoc, numD_appQ, numD_noughts]
  rw [e, List.length_append, List.length_replicate]
  show ((numD 0 (U ++ T) : Nat) : Int) * _ = ((numD 0 (U ++ T) * 10 ^ k : Nat) : Int) * _
  rw [← Int.natCast_mul, ← Int.natCast_mul, Nat.pow_add, Nat.mul_comm (10 ^ T.length), Nat.mul_assoc]
theorem cutU_none {s : List UInt8} (h : cutB 46 s = false) : cutU 46 s = s := by
  rcases idx_spec 46 s with ⟨_, _, h3, _⟩ | ⟨h1, _⟩
  · exact h3
  · rw [h] at h1; cases h1
theorem cut_lens (s : List UInt8) : (cutU 46 s).length ≤ s.length ∧ (cutD 46 s).length ≤ s.length := by
  unfold cutU cutD
  refine ⟨(List.takeWhile_sublist _).length_le, ?_⟩
  have := (List.dropWhile_sublist (p := (· != 46)) (l := s)).length_le
  rw [List.length_tail]
  omega
theorem parse_eq {s : List UInt8} (h : s.length ≤ 4096) : parseD s = parseR2 s := by
  obtain ⟨l1, l2⟩ := cut_lens s
  have l3 := trimR0_len (cutD 46 s)
  unfold parseD parseR2
  rw [if_pos (show (trimR0 (cutD 46 s)).length ≤ 4096 ∧ (cutU 46 s).length ≤ 4096 by omega)]
  cases hn : numS (cutU 46 s) with
  | false => simp
  | true =>
    cases hb : cutB 46 s with
    | false =>
      simp only [Bool.not_false, Bool.true_or, Bool.and_true, if_true, if_false, Bool.false_eq_true]
      rw [cutD_none hb, cutU_none hb]
      congr 1
      unfold fracS
      rw [show trimR0 [] = [] from rfl, List.append_nil]
      rfl
    | true =>
      cases hd : digS (cutD 46 s) with
      | false => simp
      | true => simp [fracS_trim]
end Go.Proofs.YtgdpephlpdonnaaGreatDoor
