/-
  Limbs as lists, and what the small functions on them compute. AcvNo conditions beyond the lemmas' own hypotheses.
-/
import Derived.Test.YtbdccebpehogjaaAbsThree
import Derived.Laws.Externs
import Derived.IntWalk
import Derived.Test.YtbdccebpehogjaaQuickL
import Derived.Lib.Mul64
set_option linter.unusedSimpArgs false
set_option linter.unnecessarySimpa false
set_option linter.unusedVariables false
set_option linter.constructorNameAsVariable false

/-
 LIMBS, part A: natural numbers as rows of limbs, the lowest first. No program in sight.
-/
namespace Go.Limbs
def B : Nat := 18446744073709551616
theorem B_pos : 0 < B := by decide
theorem B_one : 1 < B := by decide
def val : List Nat → Nat
 | [] => 0
 | x :: r => x + B * val r
def Wf (l : List Nat) : Prop := ∀ x ∈ l, x < B
def limbs (n : Nat) : List Nat := if _h : n = 0 then [] else n % B :: limbs (n / B)
termination_by n
decreasing_by exact Nat.div_lt_self (by omega) B_one
def fix : Nat → Nat → List Nat
 | 0, _ => []
 | k + 1, n => n % B :: fix k (n / B)
def Canon (l : List Nat) : Prop := Wf l ∧ l.getLast? ≠ some 0
theorem limbs_zero : limbs 0 = [] := by rw [limbs]; simp
theorem limbs_pos {n : Nat} (h : n ≠ 0) : limbs n = n % B :: limbs (n / B) := by rw [limbs]; simp [h]
theorem limbs_small {n : Nat} (h : n ≠ 0) (h2 : n < B) : limbs n = [n] := by
 rw [limbs_pos h, Nat.mod_eq_of_lt h2, Nat.div_eq_of_lt h2, limbs_zero]
theorem Wf.nil : Wf [] := fun x h => by simp at h
theorem Wf.cons {x : Nat} {l : List Nat} (h : x < B) (r : Wf l) : Wf (x :: l) := fun y hy => by
 rcases List.mem_cons.1 hy with rfl | h1
 ·exact h
 ·exact r y h1
theorem Wf.head {x : Nat} {l : List Nat} (h : Wf (x :: l)) : x < B := h x (by simp)
theorem Wf.tail {x : Nat} {l : List Nat} (h : Wf (x :: l)) : Wf l := fun y hy => h y (by simp [hy])
theorem Wf.append {a b : List Nat} (h : Wf a) (r : Wf b) : Wf (a ++ b) := fun x hx => by
 rcases List.mem_append.1 hx with h1 | h1
 ·exact h x h1
 ·exact r x h1
theorem Wf.left {a b : List Nat} (h : Wf (a ++ b)) : Wf a := fun x hx => h x (by simp [hx])
theorem Wf.right {a b : List Nat} (h : Wf (a ++ b)) : Wf b := fun x hx => h x (by simp [hx])
theorem Wf.take {a : List Nat} (h : Wf a) (n : Nat) : Wf (a.take n) := fun x hx => h x (List.mem_of_mem_take hx)
theorem Wf.drop {a : List Nat} (h : Wf a) (n : Nat) : Wf (a.drop n) := fun x hx => h x (List.mem_of_mem_drop hx)
theorem Wf.get {a : List Nat} (h : Wf a) {i x : Nat} (hx : a[i]? = some x) : x < B := h x (List.mem_of_getElem? hx)
theorem Wf.zeros (n : Nat) : Wf (List.replicate n 0) := fun x hx => by
 rw [List.mem_replicate] at hx
 rw [hx.2]; exact B_pos
theorem Wf.set {a : List Nat} (h : Wf a) (i : Nat) {x : Nat} (hx : x < B) : Wf (a.set i x) := fun y hy => by
 rcases List.mem_or_eq_of_mem_set hy with h1 | h1
 ·exact h y h1
 ·subst h1; exact hx
theorem val_nil : val [] = 0 := rfl
theorem val_cons (x : Nat) (r : List Nat) : val (x :: r) = x + B * val r := rfl
theorem val_append : ∀ (a b : List Nat), val (a ++ b) = val a + B ^ a.length * val b
 | [], b => by simp [val]
 | x :: r, b => by
  rw [List.cons_append, val_cons, val_append r b, val_cons, List.length_cons, Nat.pow_succ]
  grind
theorem val_snoc (a : List Nat) (x : Nat) : val (a ++ [x]) = val a + B ^ a.length * x := by rw [val_append]; simp [val]
theorem val_zeros : ∀ n : Nat, val (List.replicate n 0) = 0
 | 0 => rfl
 | n + 1 => by rw [List.replicate_succ, val_cons, val_zeros n]; simp
theorem val_pad (a : List Nat) (n : Nat) : val (a ++ List.replicate n 0) = val a := by rw [val_append, val_zeros]; simp
theorem val_lt : ∀ {a : List Nat}, Wf a → val a < B ^ a.length
 | [], _ => by simp [val]
 | x :: r, h => by
  have h1 := h.head
  have h2 := val_lt h.tail
  rw [val_cons, List.length_cons, Nat.pow_succ]
  have h3 : B * (val r + 1) ≤ B * B ^ r.length := Nat.mul_le_mul_left _ h2
  rw [Nat.mul_add] at h3
  rw [Nat.mul_comm (B ^ r.length)]
  omega
theorem Bpow_pos (n : Nat) : 0 < B ^ n := Nat.pow_pos B_pos
theorem wf_limbs : ∀ n : Nat, Wf (limbs n) := by
 intro n
 induction n using Nat.strongRecOn with
 | _ n ih =>
  by_cases h : n = 0
  ·subst h; rw [limbs_zero]; exact Wf.nil
  ·rw [limbs_pos h]
   exact Wf.cons (Nat.mod_lt _ B_pos) (ih _ (Nat.div_lt_self (by omega) B_one))
theorem val_limbs : ∀ n : Nat, val (limbs n) = n := by
 intro n
 induction n using Nat.strongRecOn with
 | _ n ih =>
  by_cases h : n = 0
  ·subst h; rw [limbs_zero]; rfl
  ·rw [limbs_pos h, val_cons, ih _ (Nat.div_lt_self (by omega) B_one)]
   exact Nat.mod_add_div n B
theorem limbs_eq_nil {n : Nat} : limbs n = [] ↔ n = 0 := ⟨fun h => by rw [← val_limbs n, h]; rfl, fun h => by rw [h, limbs_zero]⟩
theorem Canon.tail {x : Nat} {l : List Nat} (h : Canon (x :: l)) : Canon l := by
 refine ⟨h.1.tail, fun e => h.2 ?_⟩
 rw [List.getLast?_cons, e]; rfl
theorem limbs_val : ∀ {a : List Nat}, Canon a → limbs (val a) = a
 | [], _ => by rw [val_nil, limbs_zero]
 | x :: r, h => by
  have hx := h.1.head
  have ih := limbs_val h.tail
  have hB := B_pos
  rw [val_cons]
  by_cases hz : x + B * val r = 0
  ·have hr : val r = 0 := by
    have h3 : B * val r = 0 := by omega
    rcases Nat.mul_eq_zero.1 h3 with h4 | h4
    ·omega
    ·exact h4
   have hx0 : x = 0 := by omega
   have hr2 : r = [] := by rw [← ih, hr, limbs_zero]
   subst hr2 hx0
   exact absurd rfl h.2
  ·rw [limbs_pos hz, Nat.add_mul_mod_self_left, Nat.mod_eq_of_lt hx, Nat.add_mul_div_left _ _ hB, Nat.div_eq_of_lt hx, Nat.zero_add, ih]
theorem canon_limbs (n : Nat) : Canon (limbs n) := by
 refine ⟨wf_limbs n, ?_⟩
 induction n using Nat.strongRecOn with
 | _ n ih =>
  by_cases h : n = 0
  ·subst h; rw [limbs_zero]; simp
  ·rw [limbs_pos h, List.getLast?_cons]
   have hi := ih _ (Nat.div_lt_self (Nat.pos_of_ne_zero h) B_one)
   intro e
   cases hl : (limbs (n / B)).getLast? with
   | some y =>
    rw [hl] at e hi
    exact hi e
   | none =>
    rw [hl] at e
    have h1 : limbs (n / B) = [] := List.getLast?_eq_none_iff.1 hl
    have h2 := limbs_eq_nil.1 h1
    have h3 : n % B = 0 := by simpa using e
    have h4 := Nat.mod_add_div n B
    rw [h2, h3] at h4
    omega
def len (n : Nat) : Nat := (limbs n).length
theorem lt_len (n : Nat) : n < B ^ len n := by
 have := val_lt (wf_limbs n)
 rwa [val_limbs] at this
theorem len_le {n k : Nat} (h : n < B ^ k) : len n ≤ k := by
 unfold len
 induction k generalizing n with
 | zero =>
  have : n = 0 := by simpa using h
  subst this
  simp [limbs_zero]
 | succ k ih =>
  by_cases hn : n = 0
  ·subst hn; simp [limbs_zero]
  ·rw [limbs_pos hn]
   have h2 : n / B < B ^ k := by
    rw [Nat.div_lt_iff_lt_mul B_pos, ← Nat.pow_succ]; exact h
   have := ih h2
   simp only [List.length_cons]
   omega
theorem Bpow_le {m n : Nat} (h : m ≤ n) : B ^ m ≤ B ^ n := Nat.pow_le_pow_right B_pos h
theorem len_le_iff {n k : Nat} : len n ≤ k ↔ n < B ^ k := ⟨fun h => Nat.lt_of_lt_of_le (lt_len n) (Bpow_le h), len_le⟩
theorem lt_len_iff {n k : Nat} : k < len n ↔ B ^ k ≤ n := by
 have := @len_le_iff n k
 omega
theorem len_ge {n : Nat} (h : n ≠ 0) : B ^ (len n - 1) ≤ n := by
 have h1 : len n ≠ 0 := fun e => h (limbs_eq_nil.1 (List.length_eq_zero_iff.1 e))
 exact lt_len_iff.1 (by omega)
theorem len_mono {m n : Nat} (h : m ≤ n) : len m ≤ len n := len_le_iff.2 (Nat.lt_of_le_of_lt h (lt_len n))
theorem len_eq_zero {n : Nat} : len n = 0 ↔ n = 0 := by rw [len, List.length_eq_zero_iff, limbs_eq_nil]
theorem len_zero : len 0 = 0 := len_eq_zero.2 rfl
theorem lt_of_len {m n : Nat} (h : len m < len n) : m < n := by
 have h1 := lt_len m
 have h2 := lt_len_iff.1 h
 omega
theorem len_add (m n : Nat) : len (m + n) ≤ max (len m) (len n) + 1 := by
 refine len_le ?_
 have h1 := lt_len m
 have h2 := lt_len n
 have h3 := Bpow_le (Nat.le_max_left (len m) (len n))
 have h4 := Bpow_le (Nat.le_max_right (len m) (len n))
 rw [Nat.pow_succ]
 have h5 : B ^ max (len m) (len n) * 2 ≤ B ^ max (len m) (len n) * B := Nat.mul_le_mul_left _ B_one
 omega
theorem len_mul (m n : Nat) : len (m * n) ≤ len m + len n := by
 refine len_le ?_
 rw [Nat.pow_add]
 exact Nat.mul_lt_mul'' (lt_len m) (lt_len n)
theorem top_mod {T P m : Nat} (h : T < P) : (T + P * m) % (P * B) = T + P * (m % B) := by
 rw [Nat.mod_mul, Nat.add_mul_mod_self_left, Nat.mod_eq_of_lt h, Nat.add_mul_div_left _ _ (by omega), Nat.div_eq_of_lt h, Nat.zero_add]
theorem length_fix : ∀ (k n : Nat), (fix k n).length = k
 | 0, _ => rfl
 | k + 1, n => by simp [fix, length_fix k]
theorem wf_fix : ∀ (k n : Nat), Wf (fix k n)
 | 0, _ => Wf.nil
 | k + 1, n => Wf.cons (Nat.mod_lt _ B_pos) (wf_fix k _)
theorem fix_val : ∀ (a : List Nat) (k : Nat), Wf a → a.length = k → fix k (val a) = a
 | [], k, _, h => by subst h; rfl
 | x :: r, k, h, hl => by
  subst hl
  have hx := h.head
  simp only [List.length_cons, fix, val_cons]
  rw [Nat.add_mul_mod_self_left, Nat.mod_eq_of_lt hx, Nat.add_mul_div_left _ _ B_pos, Nat.div_eq_of_lt hx, Nat.zero_add, fix_val r _ h.tail rfl]
theorem val_fix : ∀ (k n : Nat), val (fix k n) = n % B ^ k
 | 0, n => by simp [fix, val, Nat.mod_one]
 | k + 1, n => by
  rw [fix, val_cons, val_fix k, Nat.pow_succ, Nat.mul_comm (B ^ k) B, Nat.mod_mul]
theorem val_fix_of {k n : Nat} (h : n < B ^ k) : val (fix k n) = n := by rw [val_fix, Nat.mod_eq_of_lt h]
theorem val_inj {a b : List Nat} (ha : Wf a) (hb : Wf b) (hl : a.length = b.length) (h : val a = val b) : a = b := by
 have h1 := fix_val a b.length ha hl
 rw [h] at h1
 exact h1.symm.trans (fix_val b b.length hb rfl)
theorem fix_mod (k n : Nat) : fix k (n % B ^ k) = fix k n := val_inj (wf_fix _ _) (wf_fix _ _) (by rw [length_fix, length_fix]) (by rw [val_fix, val_fix, Nat.mod_mod])
theorem limbs_pad (n k : Nat) : val (limbs n ++ List.replicate k 0) = n := by rw [val_pad, val_limbs]
theorem fix_eq {k n : Nat} (h : len n ≤ k) : fix k n = limbs n ++ List.replicate (k - len n) 0 := by
 refine val_inj (wf_fix _ _) ((wf_limbs n).append (Wf.zeros _)) ?_ ?_
 ·rw [length_fix, List.length_append, List.length_replicate]
  have : (limbs n).length = len n := rfl
  omega
 ·rw [limbs_pad, val_fix_of (len_le_iff.1 h)]
theorem val_split (a : List Nat) {i : Nat} (h : i ≤ a.length) : val a = val (a.take i) + B ^ i * val (a.drop i) := by
 have h1 := val_append (a.take i) (a.drop i)
 rw [List.take_append_drop, List.length_take, Nat.min_eq_left h] at h1
 exact h1
theorem drop_get {a : List Nat} {i x : Nat} (h : a[i]? = some x) : a.drop i = x :: a.drop (i + 1) := by
 obtain ⟨h1, rfl⟩ := List.getElem?_eq_some_iff.1 h
 exact List.drop_eq_getElem_cons h1
theorem take_get {a : List Nat} {i x : Nat} (h : a[i]? = some x) : a.take (i + 1) = a.take i ++ [x] := by
 rw [List.take_add_one, h]; rfl
theorem val_take_succ {a : List Nat} {i x : Nat} (h : a[i]? = some x) : val (a.take (i + 1)) = val (a.take i) + B ^ i * x := by
 have hl : i ≤ a.length := Nat.le_of_lt (List.getElem?_eq_some_iff.1 h).1
 rw [take_get h, val_snoc, List.length_take, Nat.min_eq_left hl]
theorem take_over {a : List Nat} {i : Nat} (h : a[i]? = none) : a.take (i + 1) = a.take i := by
 have := List.getElem?_eq_none_iff.1 h
 rw [List.take_of_length_le (by omega), List.take_of_length_le this]
theorem val_drop {a : List Nat} {i x : Nat} (h : a[i]? = some x) : val (a.drop i) = x + B * val (a.drop (i + 1)) := by rw [drop_get h, val_cons]
theorem val_take_lt {a : List Nat} (h : Wf a) (i : Nat) : val (a.take i) < B ^ i :=
 Nat.lt_of_lt_of_le (val_lt (h.take i)) (Bpow_le (List.length_take_le i a))
theorem val_drop_eq {a : List Nat} (h : Wf a) (i : Nat) : val (a.drop i) = val a / B ^ i := by
 by_cases hi : i ≤ a.length
 ·rw [val_split a hi, Nat.add_mul_div_left _ _ (Bpow_pos i), Nat.div_eq_of_lt (val_take_lt h i), Nat.zero_add]
 ·rw [List.drop_eq_nil_of_le (by omega), val_nil, Nat.div_eq_of_lt (Nat.lt_of_lt_of_le (val_lt h) (Bpow_le (by omega)))]
theorem val_take_eq {a : List Nat} (h : Wf a) (i : Nat) : val (a.take i) = val a % B ^ i := by
 by_cases hi : i ≤ a.length
 ·rw [val_split a hi, Nat.add_mul_mod_self_left, Nat.mod_eq_of_lt (val_take_lt h i)]
 ·rw [List.take_of_length_le (by omega), Nat.mod_eq_of_lt (Nat.lt_of_lt_of_le (val_lt h) (Bpow_le (by omega)))]
theorem take_set (l : List Nat) (i s : Nat) : (l.set i s).take i = l.take i := by
 rw [List.take_set, List.set_eq_of_length_le (by simp; omega)]
theorem val_take_set {l : List Nat} {i : Nat} (h : i < l.length) (s : Nat) : val ((l.set i s).take (i + 1)) = val (l.take i) + B ^ i * s := by
 rw [val_take_succ (a := l.set i s) (x := s) (by simp [h]), take_set]
theorem trim_step {a : List Nat} {n : Nat} (h0 : a[n]? = some 0) : val (a.take (n + 1)) = val (a.take n) := by rw [val_take_succ h0]; simp
theorem trim_done {a : List Nat} {n : Nat} (hw : Wf a) (hv : val (a.take n) = val a) (h0 : n = 0 ∨ ∃ x, a[n - 1]? = some x ∧ x ≠ 0) : a.take n = limbs (val a) := by
 rw [← hv]
 refine (limbs_val ⟨hw.take n, ?_⟩).symm
 rcases h0 with rfl | ⟨x, hx, hx0⟩
 ·simp
 ·intro e
  by_cases hn : n = 0
  ·subst hn; simp at e
  ·have h1 : n - 1 + 1 = n := by omega
   have h2 := take_get hx
   rw [h1] at h2
   rw [h2] at e
   simp at e
   exact hx0 e
def cmpI (m n : Nat) : Int := if m < n then -1 else if m = n then 0 else 1
theorem cmpI_lt {m n : Nat} (h : m < n) : cmpI m n = -1 := by simp [cmpI, h]
theorem cmpI_gt {m n : Nat} (h : n < m) : cmpI m n = 1 := by
 have h1 : ¬ m < n := by omega
 have h2 : m ≠ n := by omega
 simp [cmpI, h1, h2]
theorem cmpI_neg {m n : Nat} : cmpI m n < 0 ↔ m < n := by
 unfold cmpI
 split
 ·simp [*]
 ·split <;> simp [*]
theorem cmpI_eq (m : Nat) : cmpI m m = 0 := by simp [cmpI]
theorem lt_of_first {a b : List Nat} {i x y : Nat} (ha : Wf a) (hd : a.drop (i + 1) = b.drop (i + 1)) (hx : a[i]? = some x) (hy : b[i]? = some y) (h : x < y) : val a < val b := by
 have la : i ≤ a.length := Nat.le_of_lt (List.getElem?_eq_some_iff.1 hx).1
 have lb : i ≤ b.length := Nat.le_of_lt (List.getElem?_eq_some_iff.1 hy).1
 rw [val_split a la, val_split b lb, val_drop hx, val_drop hy, hd]
 have h1 := val_take_lt ha i
 have h2 : B ^ i * (x + B * val (b.drop (i + 1)) + 1) ≤ B ^ i * (y + B * val (b.drop (i + 1))) := Nat.mul_le_mul_left _ (by omega)
 rw [Nat.mul_add, Nat.mul_one] at h2
 omega
end Go.Limbs

/-
 LIMBS, part B: what one round of each loop does to the numbers. No program in sight.
-/
namespace Go.Limbs
def addD (x y c : Nat) : Nat := (x + y + c) % B
def addC (x y c : Nat) : Nat := (x + y + c) / B
theorem addD_lt (x y c : Nat) : addD x y c < B := Nat.mod_lt _ B_pos
theorem add_eq (x y c : Nat) : addD x y c + B * addC x y c = x + y + c := Nat.mod_add_div _ _
theorem add_step {p u v P x y c : Nat} (h : p + P * c = u + v) : p + P * addD x y c + P * B * addC x y c = (u + P * x) + (v + P * y) := by
 have e := add_eq x y c
 generalize addD x y c = m at *
 generalize addC x y c = d at *
 grind
theorem add_carry {x y c : Nat} (hx : x < B) (hy : y < B) (hc : c ≤ 1) : addC x y c ≤ 1 := by
 have : addC x y c < 2 := by unfold addC; rw [Nat.div_lt_iff_lt_mul B_pos]; omega
 omega
def subD (x y c : Nat) : Nat := (x + B - y - c) % B
def subC (x y c : Nat) : Nat := if x < y + c then 1 else 0
theorem subD_lt (x y c : Nat) : subD x y c < B := Nat.mod_lt _ B_pos
theorem subC_le (x y c : Nat) : subC x y c ≤ 1 := by unfold subC; split <;> omega
theorem sub_eq {x y c : Nat} (hx : x < B) (hy : y < B) (hc : c ≤ 1) : subD x y c + (y + c) = x + B * subC x y c := by
 unfold subD subC
 by_cases h : x < y + c
 ·rw [if_pos h, Nat.mod_eq_of_lt (by omega)]; omega
 ·rw [if_neg h, show x + B - y - c = x - y - c + B by omega, Nat.add_mod_right, Nat.mod_eq_of_lt (by omega)]; omega
theorem sub_step {p u v P x y c : Nat} (hx : x < B) (hy : y < B) (hc : c ≤ 1) (h : p + v = u + P * c) :
  p + P * subD x y c + (v + P * y) = (u + P * x) + P * B * subC x y c := by
 have e := sub_eq hx hy hc
 generalize subD x y c = m at *
 generalize subC x y c = d at *
 grind
theorem mac_lt {x k c o : Nat} (hx : x < B) (hk : k < B) (hc : c < B) (ho : o < B) : x * k + c + o < B * B := by
 have h1 : x * k ≤ (B - 1) * (B - 1) := Nat.mul_le_mul (by omega) (by omega)
 have h2 : (B - 1) * (B - 1) + (B - 1) + (B - 1) < B * B := by decide
 omega
theorem mac_high {x k c o : Nat} : x * k / B + (x * k % B + c) / B + (o + (x * k % B + c) % B) / B = (x * k + c + o) / B := by
 have e := Nat.mod_add_div (x * k) B
 have e1 := Nat.mod_add_div (x * k % B + c) B
 have e2 := Nat.mod_add_div (o + (x * k % B + c) % B) B
 have h : x * k + c + o = (o + (x * k % B + c) % B) % B + B * (x * k / B + (x * k % B + c) / B + (o + (x * k % B + c) % B) / B) := by
  generalize x * k / B = a at *
  generalize (x * k % B + c) / B = b at *
  generalize (o + (x * k % B + c) % B) / B = d at *
  rw [Nat.mul_add, Nat.mul_add]
  omega
 rw [h, Nat.add_mul_div_left _ _ B_pos, Nat.div_eq_of_lt (Nat.mod_lt _ B_pos), Nat.zero_add]
theorem mac_div_lt {x k c o : Nat} (hx : x < B) (hk : k < B) (hc : c < B) (ho : o < B) : (x * k + c + o) / B < B := by
 rw [Nat.div_lt_iff_lt_mul B_pos]; exact mac_lt hx hk hc ho
theorem mac_high' {x k c o : Nat} : x * k / B + (o + x * k % B) / B + ((o + x * k % B) % B + c) / B = (x * k + c + o) / B := by
 have e := Nat.mod_add_div (x * k) B
 have e1 := Nat.mod_add_div (o + x * k % B) B
 have e2 := Nat.mod_add_div ((o + x * k % B) % B + c) B
 have h : x * k + c + o = ((o + x * k % B) % B + c) % B + B * (x * k / B + (o + x * k % B) / B + ((o + x * k % B) % B + c) / B) := by
  generalize x * k / B = a at *
  generalize (o + x * k % B) / B = b at *
  generalize ((o + x * k % B) % B + c) / B = d at *
  rw [Nat.mul_add, Nat.mul_add]
  omega
 rw [h, Nat.add_mul_div_left _ _ B_pos, Nat.div_eq_of_lt (Nat.mod_lt _ B_pos), Nat.zero_add]
theorem mac_low' {x k c o : Nat} : ((o + x * k % B) % B + c) % B = (x * k + c + o) % B := by
 rw [Nat.mod_add_mod, Nat.add_comm o, Nat.add_assoc, Nat.mod_add_mod, Nat.add_assoc, Nat.add_comm o]
theorem less_high {y k c : Nat} : y * k / B + (y * k % B + c) / B = (y * k + c) / B := by
 have := @mac_high y k c 0
 rw [Nat.zero_add, Nat.add_zero, Nat.div_eq_of_lt (Nat.mod_lt _ B_pos), Nat.add_zero] at this
 exact this
theorem less_low {y k c : Nat} : (y * k % B + c) % B = (y * k + c) % B := Nat.mod_add_mod _ _ _
theorem less_step {p x b P y k c w o : Nat} (ho : o < B) (hw : w ≤ 1) (h : p + b * k = x + P * (c + w)) :
  p + P * subD o ((y * k + c) % B) w + (b + P * y) * k = (x + P * o) + P * B * ((y * k + c) / B + subC o ((y * k + c) % B) w) := by
 have e := Nat.mod_add_div (y * k + c) B
 have e2 := sub_eq ho (Nat.mod_lt (y * k + c) B_pos) hw
 generalize (y * k + c) % B = m at *
 generalize (y * k + c) / B = d at *
 generalize subD o m w = sd at *
 generalize subC o m w = sc at *
 grind
theorem pow64 : (2 : Nat) ^ 64 = B := by decide
theorem two_split {s : Nat} (h : s ≤ 64) : 2 ^ s * 2 ^ (64 - s) = B := by rw [← Nat.pow_add, show s + (64 - s) = 64 by omega, pow64]
theorem B_pow (w : Nat) : B ^ w = 2 ^ (64 * w) := by rw [← pow64, ← Nat.pow_mul]
theorem shl_low {x s : Nat} (h : s ≤ 64) : x * 2 ^ s % B = x % 2 ^ (64 - s) * 2 ^ s := by
 rw [← two_split h, Nat.mul_comm (2 ^ s) (2 ^ (64 - s)), Nat.mul_mod_mul_right]
theorem shl_high {x s : Nat} (h : s ≤ 64) : x * 2 ^ s / B = x / 2 ^ (64 - s) := by
 rw [← two_split h, Nat.mul_comm (2 ^ s) (2 ^ (64 - s)), Nat.mul_div_mul_right _ _ (Nat.two_pow_pos s)]
theorem shl_high_lt {x s : Nat} (hx : x < B) : x * 2 ^ s / B < 2 ^ s := by
 rw [Nat.div_lt_iff_lt_mul B_pos, Nat.mul_comm]; exact Nat.mul_lt_mul_of_pos_left hx (Nat.two_pow_pos s)
theorem or_low {h y s : Nat} (hh : h < 2 ^ s) : h ||| y * 2 ^ s = h + y * 2 ^ s := by
 rw [Nat.or_comm, Nat.add_comm, ← Nat.shiftLeft_eq, Nat.shiftLeft_add_eq_or_of_lt hh]
theorem or_shl {h x s : Nat} (hs : s ≤ 64) (hh : h < 2 ^ s) : h ||| x * 2 ^ s % B = h + x * 2 ^ s % B := by rw [shl_low hs, or_low hh]
theorem shl_sum_lt {h x s : Nat} (hs : s ≤ 64) (hh : h < 2 ^ s) : h + x * 2 ^ s % B < B := by
 rw [shl_low hs]
 have h1 : (x % 2 ^ (64 - s) + 1) * 2 ^ s ≤ 2 ^ (64 - s) * 2 ^ s := Nat.mul_le_mul_right _ (Nat.mod_lt _ (Nat.two_pow_pos _))
 rw [Nat.mul_comm (2 ^ (64 - s)), two_split hs, Nat.add_mul, Nat.one_mul] at h1
 omega
theorem shl_step {p u P Q x s h N : Nat} (e : p + P * h = u * N) (hP : P * 2 ^ s = N * Q) :
  p + P * (h + x * 2 ^ s % B) + P * B * (x * 2 ^ s / B) = (u + Q * x) * N := by
 have e1 := Nat.mod_add_div (x * 2 ^ s) B
 generalize x * 2 ^ s % B = m at *
 generalize x * 2 ^ s / B = d at *
 grind
theorem shr_limb {x y z s : Nat} (hs : s ≤ 64) (hx : x < B) : (x + B * (y + B * z)) / 2 ^ s % B = x / 2 ^ s + y * 2 ^ (64 - s) % B := by
 have h1 := two_split hs
 have h2 : B * (y + B * z) = 2 ^ s * (2 ^ (64 - s) * (y + B * z)) := by rw [← Nat.mul_assoc, h1]
 rw [h2, Nat.add_mul_div_left _ _ (Nat.two_pow_pos s), Nat.mul_add, ← Nat.add_assoc, ← Nat.mul_assoc, Nat.mul_comm (2 ^ (64 - s)) B, Nat.mul_assoc, Nat.add_mul_mod_self_left, Nat.mul_comm _ y]
 have h3 : x / 2 ^ s < 2 ^ (64 - s) := by rw [Nat.div_lt_iff_lt_mul (Nat.two_pow_pos s), Nat.mul_comm, h1]; exact hx
 have h4 := @shl_low y (64 - s) (by omega)
 have h5 : x / 2 ^ s + y * 2 ^ (64 - s) % B < B := shl_sum_lt (by omega) h3
 rw [Nat.add_mod, Nat.mod_eq_of_lt (show x / 2 ^ s < B by omega), Nat.mod_eq_of_lt h5]
theorem shr_or {x y s : Nat} (hs : s ≤ 64) (hx : x < B) : x / 2 ^ s ||| y * 2 ^ (64 - s) % B = x / 2 ^ s + y * 2 ^ (64 - s) % B := by
 have h1 := two_split hs
 exact or_shl (by omega) (by rw [Nat.div_lt_iff_lt_mul (Nat.two_pow_pos s), Nat.mul_comm, h1]; exact hx)
theorem mod_step {v i l : Nat} (h : v / B ^ i % B = l) : v % B ^ (i + 1) = v % B ^ i + B ^ i * l := by
 rw [Nat.pow_succ, Nat.mod_mul, h]
theorem div_step {a q r x k : Nat} (h : a = k * q + r) : x + B * a = k * ((r * B + x) / k + B * q) + (r * B + x) % k := by
 have e := Nat.mod_add_div (r * B + x) k
 generalize (r * B + x) / k = m at *
 generalize (r * B + x) % k = d at *
 grind
theorem div_lt {r x k : Nat} (hr : r < k) (hx : x < B) : (r * B + x) / k < B := by
 rw [Nat.div_lt_iff_lt_mul (by omega)]
 have : (r + 1) * B ≤ k * B := Nat.mul_le_mul_right _ hr
 rw [Nat.add_mul, Nat.one_mul, Nat.mul_comm k] at this
 omega
theorem div_done {a q r k : Nat} (h : a = k * q + r) (hr : r < k) : q = a / k ∧ r = a % k := by
 subst h
 rw [Nat.mul_add_div (by omega), Nat.div_eq_of_lt hr, Nat.mul_add_mod, Nat.mod_eq_of_lt hr]
 exact ⟨by omega, rfl⟩
end Go.Limbs

/-
 LIMBS, part C: the digits of a quotient. No program in sight.
-/
namespace Go.Limbs
def guessL (d1 d2 next : Nat) : Nat → Nat → Nat
 | 0, _ => 0
 | q + 1, r => if (q + 1) * d2 ≤ r * B + next then q + 1 else if B ≤ r + d1 then q else guessL d1 d2 next q (r + d1)
def guessN (high low next d1 d2 : Nat) : Nat :=
 if d1 ≤ high then B - 1 else guessL d1 d2 next ((high * B + low) / d1) ((high * B + low) % d1)
theorem guessL_le (d1 d2 next : Nat) : ∀ (q r : Nat), guessL d1 d2 next q r ≤ q
 | 0, _ => by simp [guessL]
 | q + 1, r => by
  unfold guessL
  have := guessL_le d1 d2 next q (r + d1)
  split
  ·omega
  ·split <;> omega
theorem guessN_lt {high low next d1 d2 : Nat} (hl : low < B) : guessN high low next d1 d2 < B := by
 unfold guessN
 have hB := B_pos
 split
 ·omega
 ·rename_i h
  exact Nat.lt_of_le_of_lt (guessL_le _ _ _ _ _) (div_lt (by omega) hl)
theorem guessL_ge {d1 d2 next T Q : Nat} (H : ∀ q, T < q * (d1 * B + d2) → Q < q) (q : Nat) : ∀ r, T = (q * d1 + r) * B + next → Q ≤ q → Q ≤ guessL d1 d2 next q r := by
 induction q with
 | zero => intro r _ h; rw [guessL]; exact h
 | succ q ih =>
  intro r hT h
  rw [guessL]
  split
  ·exact h
  ·rename_i h1
   have h2 : Q < q + 1 := by
    refine H _ ?_
    have e : (q + 1) * (d1 * B + d2) = (q + 1) * d1 * B + (q + 1) * d2 := by rw [Nat.mul_add, Nat.mul_assoc]
    rw [hT, e, Nat.add_mul]
    omega
   split
   ·omega
   ·refine ih (r + d1) ?_ (by omega)
    rw [hT]
    have e : (q + 1) * d1 + r = q * d1 + (r + d1) := by rw [Nat.add_mul, Nat.one_mul]; omega
    rw [e]
theorem guessN_ge {high low next d1 d2 Q : Nat} (hQ : Q < B) (H : ∀ q, (high * B + low) * B + next < q * (d1 * B + d2) → Q < q) (hn : next < B) : Q ≤ guessN high low next d1 d2 := by
 unfold guessN
 split
 ·omega
 ·rename_i h
  have hd : 0 < d1 := by omega
  refine guessL_ge H _ _ ?_ ?_
  ·rw [Nat.mul_comm _ d1, Nat.div_add_mod]
  ·by_cases hc : Q ≤ (high * B + low) / d1
   ·exact hc
   ·exfalso
    have h1 := H ((high * B + low) / d1 + 1) ?_
    ·omega
    ·have e := Nat.div_add_mod (high * B + low) d1
     have e2 := Nat.mod_lt (high * B + low) hd
     generalize (high * B + low) / d1 = m at *
     generalize (high * B + low) % d1 = u at *
     generalize high * B + low = t at *
     have h2 : t + 1 ≤ d1 * (m + 1) := by rw [Nat.mul_add]; omega
     have h3 := Nat.mul_le_mul_right B h2
     have h4 : (t + 1) * B = t * B + B := by rw [Nat.add_mul, Nat.one_mul]
     have h5 : (m + 1) * (d1 * B + d2) = d1 * (m + 1) * B + (m + 1) * d2 := by rw [Nat.mul_add, ← Nat.mul_assoc, Nat.mul_comm (m + 1) d1]
     omega
theorem guess_quot {X b n high low next d1 d2 : Nat} (hb : 0 < b) (hX : X / b < B) (hx : X / B ^ n = (high * B + low) * B + next) (hbd : b / B ^ n = d1 * B + d2) (hn : next < B) :
  X / b ≤ guessN high low next d1 d2 := by
 refine guessN_ge hX (fun q hq => ?_) hn
 rw [← hx, ← hbd] at hq
 rw [Nat.div_lt_iff_lt_mul hb]
 have h1 : X < (X / B ^ n + 1) * B ^ n := by
  have := Nat.lt_div_mul_add (a := X) (b := B ^ n) (Bpow_pos n)
  rw [Nat.add_mul, Nat.one_mul]; exact this
 have h2 : (X / B ^ n + 1) * B ^ n ≤ q * (b / B ^ n) * B ^ n := Nat.mul_le_mul_right _ hq
 have h3 : q * (b / B ^ n) * B ^ n ≤ q * b := by
  rw [Nat.mul_assoc]
  exact Nat.mul_le_mul_left _ (Nat.div_mul_le_self b (B ^ n))
 omega
theorem more_over {Y b n k X : Nat} (hb : b < B ^ n) (hX : X < k * b) (hk : k * b ≤ B ^ (n + 1)) (hY : Y = X + B ^ (n + 1) - k * b) :
  (X < (k - 1) * b → (Y + b) % B ^ (n + 1) = X + B ^ (n + 1) - (k - 1) * b ∧ Y / B ^ n ≤ (Y + b) % B ^ (n + 1) / B ^ n) ∧
  (¬ X < (k - 1) * b → (Y + b) % B ^ (n + 1) = X - (k - 1) * b ∧ ¬ Y / B ^ n ≤ (Y + b) % B ^ (n + 1) / B ^ n) := by
 have hk1 : 1 ≤ k := by
  rcases Nat.eq_zero_or_pos k with h | h
  ·subst h; simp at hX
  ·exact h
 have e : k * b = (k - 1) * b + b := by
  have : k = (k - 1) + 1 := by omega
  rw [this, Nat.add_mul, Nat.one_mul]; simp
 have hp : B ^ (n + 1) = B ^ n * B := Nat.pow_succ ..
 have hpos := Bpow_pos n
 have hB := B_one
 have hbig : B ^ n * 2 ≤ B ^ (n + 1) := by rw [hp]; exact Nat.mul_le_mul_left _ hB
 clear hp
 generalize hm : (k - 1) * b = m at *
 generalize hM : B ^ (n + 1) = M at *
 constructor
 ·intro h
  have h1 : Y + b = X + M - m := by omega
  have h2 : Y + b < M := by omega
  rw [Nat.mod_eq_of_lt h2]
  exact ⟨h1, Nat.div_le_div_right (by omega)⟩
 ·intro h
  have h1 : Y + b = (X - m) + M := by omega
  have h3 : X - m < b := by omega
  rw [h1, Nat.add_mod_right, Nat.mod_eq_of_lt (by omega)]
  refine ⟨rfl, ?_⟩
  rw [Nat.div_eq_of_lt (show X - m < B ^ n by omega)]
  have h4 : 1 ≤ Y / B ^ n := by
   rw [Nat.le_div_iff_mul_le hpos]; omega
  omega
theorem long_step {A R b P q : Nat} (hb : 0 < b) (hP : 0 < P) (h : A = R + b * (P * B) * q) :
  A = (R / P % b * P + R % P) + b * P * (R / P / b + B * q) ∧ R / P % b * P + R % P < b * P := by
 have e1 := Nat.div_add_mod R P
 have e2 := Nat.div_add_mod (R / P) b
 have h1 := Nat.mod_lt (R / P) hb
 have h2 := Nat.mod_lt R hP
 constructor
 ·generalize R / P / b = d at *
  generalize R / P % b = m at *
  generalize R / P = t at *
  generalize R % P = u at *
  grind
 ·have h3 : (R / P % b + 1) * P ≤ b * P := Nat.mul_le_mul_right _ h1
  rw [Nat.add_mul, Nat.one_mul] at h3
  omega
theorem long_lt {R b P : Nat} (h : R < b * (P * B)) (hb : 0 < b) (hP : 0 < P) : R / P / b < B := by
 rw [Nat.div_lt_iff_lt_mul hb, Nat.div_lt_iff_lt_mul hP]
 have : b * (P * B) = B * b * P := by grind
 omega
theorem shift_div (a b s : Nat) : a * 2 ^ s / (b * 2 ^ s) = a / b := Nat.mul_div_mul_right _ _ (Nat.two_pow_pos s)
theorem shift_mod (a b s : Nat) : a * 2 ^ s % (b * 2 ^ s) / 2 ^ s = a % b := by
 rw [Nat.mul_mod_mul_right, Nat.mul_div_cancel _ (Nat.two_pow_pos s)]
theorem bin_step {A r b P q : Nat} (h : A = r + b * (P * 2) * q) (hr : r < b * (P * 2)) :
  (b * P ≤ r → A = (r - b * P) + b * P * (1 + 2 * q) ∧ r - b * P < b * P) ∧ (¬ b * P ≤ r → A = r + b * P * (2 * q) ∧ r < b * P) := by
 have e : b * (P * 2) = b * P * 2 := by grind
 rw [e] at h hr
 generalize b * P = m at *
 constructor
 ·intro h1
  constructor
  ·have h2 : m * (1 + 2 * q) = m + m * 2 * q := by grind
   omega
  ·omega
 ·intro h1
  constructor
  ·have h2 : m * (2 * q) = m * 2 * q := by grind
   omega
  ·omega
def size (n : Nat) : Nat := if n = 0 then 0 else n.log2 + 1
theorem lt_size (n : Nat) : n < 2 ^ size n := by
 unfold size
 split
 ·omega
 ·exact Nat.lt_log2_self
theorem size_le {n : Nat} (h : n ≠ 0) : 2 ^ (size n - 1) ≤ n := by
 unfold size
 rw [if_neg h]
 exact Nat.log2_self_le h
theorem size_zero : size 0 = 0 := rfl
theorem size_pos {n : Nat} (h : n ≠ 0) : 0 < size n := by unfold size; rw [if_neg h]; omega
theorem size_le_iff {n k : Nat} : size n ≤ k ↔ n < 2 ^ k := by
 constructor
 ·intro h
  exact Nat.lt_of_lt_of_le (lt_size n) (Nat.pow_le_pow_right (by omega) h)
 ·intro h
  by_cases hn : n = 0
  ·subst hn; simp [size_zero]
  ·have h1 := size_le hn
   have h2 : 2 ^ (size n - 1) < 2 ^ k := by omega
   have h3 := (Nat.pow_lt_pow_iff_right (by omega : 1 < 2)).1 h2
   omega
theorem size_eq {n k : Nat} (h1 : 2 ^ k ≤ n) (h2 : n < 2 ^ (k + 1)) : size n = k + 1 := by
 have h3 := size_le_iff.2 h2
 have h4 : ¬ size n ≤ k := fun h => by have := size_le_iff.1 h; omega
 omega
theorem size_shift {n : Nat} (h : n ≠ 0) (k : Nat) : size (n * 2 ^ k) = size n + k := by
 have h1 := size_le h
 have h2 := lt_size n
 have h3 := size_pos h
 have e : size n + k = (size n - 1 + k) + 1 := by omega
 rw [e]
 refine size_eq ?_ ?_
 ·rw [Nat.pow_add]; exact Nat.mul_le_mul_right _ h1
 ·rw [show size n - 1 + k + 1 = size n + k by omega, Nat.pow_add]
  exact Nat.mul_lt_mul_of_pos_right h2 (Nat.two_pow_pos k)
theorem size_mono {m n : Nat} (h : m ≤ n) : size m ≤ size n := size_le_iff.2 (Nat.lt_of_le_of_lt h (lt_size n))
theorem size_limbs {pre : List Nat} {x : Nat} (hp : Wf pre) (hx : x ≠ 0) : size (val (pre ++ [x])) = 64 * pre.length + size x := by
 have h1 := val_lt hp
 rw [val_snoc, B_pow] at *
 have h2 := size_le hx
 have h3 := lt_size x
 have h4 := size_pos hx
 rw [show 64 * pre.length + size x = (64 * pre.length + (size x - 1)) + 1 by omega]
 refine size_eq ?_ ?_
 ·rw [Nat.pow_add]
  have := Nat.mul_le_mul_left (2 ^ (64 * pre.length)) h2
  omega
 ·rw [show 64 * pre.length + (size x - 1) + 1 = 64 * pre.length + size x by omega, Nat.pow_add]
  have := Nat.mul_le_mul_left (2 ^ (64 * pre.length)) (show x + 1 ≤ 2 ^ size x from h3)
  rw [Nat.mul_add, Nat.mul_one] at this
  omega
end Go.Limbs

/-
 LIMBS, part D: rows of limbs as pure values; the carry of Go's bits.
-/
namespace Go.Abs
open Go.Limbs
def u64 (n : Nat) : PVal := .int .u64 n
def lstP (l : List Nat) : PVal := .lst (l.map u64)
def numP (n : Nat) : PVal := lstP (limbs n)
def decU : List PVal → Option (List Nat)
 | [] => some []
 | .int .u64 z :: r => if 0 ≤ z ∧ z.toNat < B then (match decU r with | some l => some (z.toNat :: l) | none => none) else none
 | _ :: _ => none
theorem decU_map : ∀ {l : List Nat}, Wf l → decU (l.map u64) = some l
 | [], _ => rfl
 | x :: r, h => by
  have hx := h.head
  have : (0 : Int) ≤ (x : Int) ∧ (x : Int).toNat < B := by simpa using hx
  simp only [List.map_cons, u64, decU, if_pos this]
  rw [decU_map h.tail]
  simp
theorem decU_some : ∀ {es : List PVal} {l : List Nat}, decU es = some l → es = l.map u64 ∧ Wf l
 | [], l, h => by simp [decU] at h; subst h; exact ⟨rfl, Wf.nil⟩
 | x :: r, l, h => by
  unfold decU at h
  split at h
  ·rename_i e; cases e
  ·rename_i z r' e
   cases e
   split at h
   ·rename_i hz
    cases hd : decU r with
    | none => rw [hd] at h; cases h
    | some l' =>
     rw [hd] at h
     cases h
     obtain ⟨h1, h2⟩ := decU_some hd
     obtain ⟨m, rfl⟩ := Int.eq_ofNat_of_zero_le hz.1
     exact ⟨by rw [h1]; simp [u64], Wf.cons hz.2 h2⟩
   ·cases h
  ·cases h
def decN (es : List PVal) : Option Nat := match decU es with
 | some l => if limbs (val l) = l ∧ l.length ≤ 100000 then some (val l) else none
 | none => none
theorem decN_num {n : Nat} (h : len n ≤ 100000) : decN ((limbs n).map u64) = some n := by
 unfold decN
 rw [decU_map (wf_limbs n)]
 have : limbs (val (limbs n)) = limbs n ∧ (limbs n).length ≤ 100000 := ⟨by rw [val_limbs], h⟩
 show (if limbs (val (limbs n)) = limbs n ∧ (limbs n).length ≤ 100000 then some (val (limbs n)) else none) = some n
 rw [if_pos this, val_limbs]
theorem decN_some {es : List PVal} {n : Nat} (h : decN es = some n) : es = (limbs n).map u64 ∧ len n ≤ 100000 := by
 unfold decN at h
 split at h
 ·rename_i l hl
  split at h
  ·rename_i h2
   cases h
   obtain ⟨h3, _⟩ := decU_some hl
   exact ⟨by rw [h2.1]; exact h3, by unfold len; rw [h2.1]; exact h2.2⟩
  ·cases h
 ·cases h
theorem B_lit : B = 18446744073709551616 := rfl
theorem wrap_u {n : Nat} (h : n < B) : IntKind.u64.wrap (n : Int) = n := by rw [B_lit] at h; exact IntWalk.u64_in _ (by omega)
theorem wrap_um (n : Nat) : IntKind.u64.wrap (n : Int) = ((n % B : Nat) : Int) := by rw [B_lit, IntKind.wrap_u64]; omega
theorem wrap_u_add {a b : Nat} (h : a + b < B) : IntKind.u64.wrap ((a : Int) + b) = ((a + b : Nat) : Int) := by rw [← Int.natCast_add]; exact wrap_u h
theorem wrap_u_mod (a b : Nat) : IntKind.u64.wrap ((a : Int) + b) = (((a + b) % B : Nat) : Int) := by rw [← Int.natCast_add]; exact wrap_um _
theorem wrap_u_mul (a b : Nat) : IntKind.u64.wrap ((a : Int) * b) = (((a * b) % B : Nat) : Int) := by rw [← Int.natCast_mul]; exact wrap_um _
theorem wrap_i {n : Nat} (h : n < 9223372036854775808) : IntKind.i64.wrap (n : Int) = n := IntWalk.i64_in _ (by omega)
theorem bv_ofInt (a : Nat) : BitVec.ofInt 64 (a : Int) = BitVec.ofNat 64 a := BitVec.ofInt_natCast 64 a
theorem or_word {a b : Nat} (ha : a < B) (hb : b < B) : (BitVec.ofInt 64 (a : Int) ||| BitVec.ofInt 64 (b : Int)).toNat = a ||| b := by
 rw [bv_ofInt, bv_ofInt, BitVec.toNat_or, BitVec.toNat_ofNat, BitVec.toNat_ofNat, pow64, Nat.mod_eq_of_lt ha, Nat.mod_eq_of_lt hb]
theorem and_word {a b : Nat} (ha : a < B) (hb : b < B) : (BitVec.ofInt 64 (a : Int) &&& BitVec.ofInt 64 (b : Int)).toNat = a &&& b := by
 rw [bv_ofInt, bv_ofInt, BitVec.toNat_and, BitVec.toNat_ofNat, BitVec.toNat_ofNat, pow64, Nat.mod_eq_of_lt ha, Nat.mod_eq_of_lt hb]
theorem or_lt {a b : Nat} (ha : a < B) (hb : b < B) : a ||| b < B := by rw [← pow64] at *; exact Nat.or_lt_two_pow ha hb
theorem or_wrap {a b : Nat} (ha : a < B) (hb : b < B) : IntKind.u64.wrap ((BitVec.ofInt 64 (a : Int) ||| BitVec.ofInt 64 (b : Int)).toNat : Int) = ((a ||| b : Nat) : Int) := by
 rw [or_word ha hb]; exact wrap_u (or_lt ha hb)
theorem and_wrap {a b : Nat} (ha : a < B) (hb : b < B) : IntKind.u64.wrap ((BitVec.ofInt 64 (a : Int) &&& BitVec.ofInt 64 (b : Int)).toNat : Int) = ((a &&& b : Nat) : Int) := by
 rw [and_word ha hb]; exact wrap_u (Nat.lt_of_le_of_lt Nat.and_le_left ha)
theorem fdiv_pow (a s : Nat) : (a : Int).fdiv (2 ^ s) = ((a / 2 ^ s : Nat) : Int) := by
 rw [Int.fdiv_eq_ediv_of_nonneg _ (Int.le_of_lt (Int.pow_pos (by omega)))]
 simp
def sAdd64 : List PVal → Option PVal
 | [.int .u64 x, .int .u64 y, .int .u64 c] => if 0 ≤ x ∧ 0 ≤ y ∧ 0 ≤ c ∧ c ≤ 1 then some (.tup [u64 (addD x.toNat y.toNat c.toNat), u64 (addC x.toNat y.toNat c.toNat)]) else none
 | _ => none
def sSub64 : List PVal → Option PVal
 | [.int .u64 x, .int .u64 y, .int .u64 c] => if 0 ≤ x ∧ 0 ≤ y ∧ 0 ≤ c ∧ c ≤ 1 then some (.tup [u64 (subD x.toNat y.toNat c.toNat), u64 (subC x.toNat y.toNat c.toNat)]) else none
 | _ => none
theorem sAdd64_nat {x y c : Nat} (h : c ≤ 1) : sAdd64 [.int .u64 x, .int .u64 y, .int .u64 c] = some (.tup [.int .u64 (addD x y c : Nat), .int .u64 (addC x y c : Nat)]) := by
 have : (0 : Int) ≤ x ∧ (0 : Int) ≤ y ∧ (0 : Int) ≤ c ∧ (c : Int) ≤ 1 := by omega
 simp only [sAdd64, if_pos this, Int.toNat_natCast, u64]
theorem sAdd64_zero {x y : Nat} : sAdd64 [.int .u64 x, .int .u64 y, .int .u64 0] = some (.tup [.int .u64 (addD x y 0 : Nat), .int .u64 (addC x y 0 : Nat)]) := sAdd64_nat (x := x) (y := y) (c := 0) (by omega)
theorem sSub64_nat {x y c : Nat} (h : c ≤ 1) : sSub64 [.int .u64 x, .int .u64 y, .int .u64 c] = some (.tup [.int .u64 (subD x y c : Nat), .int .u64 (subC x y c : Nat)]) := by
 have : (0 : Int) ≤ x ∧ (0 : Int) ≤ y ∧ (0 : Int) ≤ c ∧ (c : Int) ≤ 1 := by omega
 simp only [sSub64, if_pos this, Int.toNat_natCast, u64]
variable {P : Program} {base : Prot}
theorem add64_ext {f : FuncId} {fn : Func} (hf : P.funcs[f]? = some fn) (h1 : (fn.name == "runtime.NumGoroutine") = false) (h2 : fn.body.isNone = true) (h3 : (Extern.findNext fn).isNone = true)
  (h4 : Extern.find fn = some add64Entry) : ∀ ps x, sAdd64 ps = some x → ExtOk P f ps x := by
 intro ps x h
 unfold sAdd64 at h
 split at h
 case h_2 => cases h
 rename_i x y c
 split at h
 case isFalse => cases h
 rename_i hc
 cases h
 refine ⟨fn, _, hf, h1, h2, h3, h4, fun pr w vs hl hr => ?_⟩
 match vs, hl with
 | [a, b, d], _ =>
  have ha := hr 0 _ a rfl rfl
  have hb := hr 1 _ b rfl rfl
  have hd := hr 2 _ d rfl rfl
  cases ha
  cases hb
  cases hd
  refine ⟨_, run_add64 x y c hc.1 hc.2.1 hc.2.2.1 hc.2.2.2 w, .tup _ [_, _] rfl fun j z v h1 h2 => ?_⟩
  obtain ⟨X, rfl⟩ := Int.eq_ofNat_of_zero_le hc.1
  obtain ⟨Y, rfl⟩ := Int.eq_ofNat_of_zero_le hc.2.1
  obtain ⟨C, rfl⟩ := Int.eq_ofNat_of_zero_le hc.2.2.1
  simp only [Int.toNat_natCast] at h1
  have e1 : (addD X Y C : Int) = ((X : Int) + Y + C) % 18446744073709551616 := by unfold addD; rw [B_lit]; omega
  have e2 : (addC X Y C : Int) = ((X : Int) + Y + C) / 18446744073709551616 := by unfold addC; rw [B_lit]; omega
  match j, h1, h2 with
  | 0, h1, h2 => simp at h1 h2; subst h1 h2; unfold u64; rw [e1]; exact .int _ _
  | 1, h1, h2 => simp at h1 h2; subst h1 h2; unfold u64; rw [e2]; exact .int _ _
def sub64Entry : Array Value → Sem Value := fun args => do
 let (x, y, b) ← Extern.MathBitsCarry.three "Sub64" args
 pure (Extern.MathBitsCarry.pair ((x + Extern.MathBitsCarry.m64 - y - b) % Extern.MathBitsCarry.m64) (if x < y + b then 1 else 0))
theorem run_sub64 (x y c : Nat) (hc : c ≤ 1) (w : World) :
  (sub64Entry #[.int .u64 x, .int .u64 y, .int .u64 c]).run P w = .ok (.tuple #[.int .u64 (subD x y c : Nat), .int .u64 (subC x y c : Nat)]) w := by
 have : c = 0 ∨ c = 1 := by omega
 rcases this with rfl | rfl <;> rfl
theorem sub64_ext {f : FuncId} {fn : Func} (hf : P.funcs[f]? = some fn) (h1 : (fn.name == "runtime.NumGoroutine") = false) (h2 : fn.body.isNone = true) (h3 : (Extern.findNext fn).isNone = true)
  (h4 : Extern.find fn = some sub64Entry) : ∀ ps x, sSub64 ps = some x → ExtOk P f ps x := by
 intro ps x h
 unfold sSub64 at h
 split at h
 case h_2 => cases h
 rename_i x y c
 split at h
 case isFalse => cases h
 rename_i hc
 cases h
 refine ⟨fn, _, hf, h1, h2, h3, h4, fun pr w vs hl hr => ?_⟩
 match vs, hl with
 | [a, b, d], _ =>
  have ha := hr 0 _ a rfl rfl
  have hb := hr 1 _ b rfl rfl
  have hd := hr 2 _ d rfl rfl
  cases ha
  cases hb
  cases hd
  obtain ⟨X, rfl⟩ := Int.eq_ofNat_of_zero_le hc.1
  obtain ⟨Y, rfl⟩ := Int.eq_ofNat_of_zero_le hc.2.1
  obtain ⟨C, rfl⟩ := Int.eq_ofNat_of_zero_le hc.2.2.1
  refine ⟨_, run_sub64 X Y C (by omega) w, .tup _ [_, _] rfl fun j z v h1 h2 => ?_⟩
  simp only [Int.toNat_natCast] at h1
  match j, h1, h2 with
  | 0, h1, h2 => simp at h1 h2; subst h1 h2; exact .int _ _
  | 1, h1, h2 => simp at h1 h2; subst h1 h2; exact .int _ _
end Go.Abs

/-
 nat: the order, and what stands without zeros at the end.
-/
namespace Go.Proofs.Ytbdccebpehogjaa
open Go Go.Abs Go.Limbs
variable {base : Prot}
set_option maxRecDepth 20000
attribute [local irreducible] vc
attribute [local simp] pureS touchV freezeL fuel shiftV u64
theorem hmix : Try.prog.follows .mixedOrders = true := by kernel_rfl
theorem globNone : GlobOk base gl0 := fun g c h => .junk _
theorem wrap_succ {i : Nat} (h : i < 9223372036854775807) : IntKind.i64.wrap ((i : Int) + 1) = ((i + 1 : Nat) : Int) := by
 rw [IntWalk.i64_in _ (by omega)]; omega
theorem wrap_pred {i : Nat} (h : 0 < i) (h2 : i < 9223372036854775807) : IntKind.i64.wrap ((i : Int) - 1) = ((i - 1 : Nat) : Int) := by
 rw [IntWalk.i64_in _ (by omega)]; omega
def ivar : AVal → Nat
 | .p (.int _ n) => n.toNat
 | _ => 0
def dvar : AVal → Nat
 | .p (.int _ n) => (n + 1).toNat
 | _ => 0
theorem getE {α : Type} {l : List α} {i : Nat} {x : α} (h : l[i]? = some x) : ∀ hh, l[i]'hh = x := fun hh => by
 have := List.getElem?_eq_some_iff.1 h
 exact this.2
theorem maxLen_ge : 1000000000 ≤ maxLen := by decide
def sNaN (k : IntKind) : List PVal → Option PVal
 | [.int k' _] => if k' = k then some (.bool false) else none
 | _ => none
theorem nan_u_ok : FnOk Try.prog base 97 (pureS (sNaN .u64)) := by
 refine pure_of_vc hmix Tab.none_ok globNone low97 fun args z hs hf => ?_
 unfold sNaN at hs
 split at hs
 case h_2 => cases hs
 split at hs
 case isFalse => cases hs
 rename_i e
 subst e
 cases hs
 exact ⟨by simp [lf97], by simp [lf97]⟩
theorem nan_i_ok : FnOk Try.prog base 96 (pureS (sNaN .i64)) := by
 refine pure_of_vc hmix Tab.none_ok globNone low96 fun args z hs hf => ?_
 unfold sNaN at hs
 split at hs
 case h_2 => cases hs
 split at hs
 case isFalse => cases hs
 rename_i e
 subst e
 cases hs
 exact ⟨by simp [lf96], by simp [lf96]⟩
def cmpZ (a b : Int) : Int := if a < b then -1 else if a = b then 0 else 1
theorem cmpZ_nat (a b : Nat) : cmpZ a b = cmpI a b := by unfold cmpZ cmpI; simp only [Int.ofNat_lt, Int.ofNat_inj]
def sCompare (k : IntKind) : List PVal → Option PVal
 | [.int k' a, .int k'' b] => if k' = k ∧ k'' = k then some (.int .i64 (cmpZ a b)) else none
 | _ => none
def Tnan : Tab := (Tab.none.with 96 (pureS (sNaN .i64))).with 97 (pureS (sNaN .u64))
theorem Tnan_ok : TabOk Try.prog base Tnan := Tab.with_ok (Tab.with_ok Tab.none_ok nan_i_ok) nan_u_ok
theorem Tnan_mu (f : FuncId) (a : List AVal) (H : Heap) : Tnan.mu f a H = none := (rfl)
theorem Tnan_i : Tnan.fn 96 = pureS (sNaN .i64) := (rfl)
theorem Tnan_u : Tnan.fn 97 = pureS (sNaN .u64) := (rfl)
theorem compare_u_ok : FnOk Try.prog base 83 (pureS (sCompare .u64)) := by
 refine pure_of_vc hmix Tnan_ok globNone low83 fun args z hs hf => ?_
 unfold sCompare at hs
 split at hs
 case h_2 => cases hs
 rename_i k' a k'' b
 split at hs
 case isFalse => cases hs
 rename_i e
 obtain ⟨rfl, rfl⟩ := e
 cases hs
 refine ⟨by simp [lf83], ?_⟩
 have hn : ∀ x, sNaN .u64 [.int .u64 x] = some (.bool false) := fun x => rfl
 by_cases h1 : a < b
 ·simp [lf83, Tnan_mu, Tnan_u, hn, h1, cmpZ]
 ·by_cases h2 : a = b
  ·subst h2; simp [lf83, Tnan_mu, Tnan_u, hn, cmpZ]
  ·have h3 : b < a := by omega
   simp [lf83, Tnan_mu, Tnan_u, hn, h1, h2, h3, cmpZ]
theorem compare_i_ok : FnOk Try.prog base 82 (pureS (sCompare .i64)) := by
 refine pure_of_vc hmix Tnan_ok globNone low82 fun args z hs hf => ?_
 unfold sCompare at hs
 split at hs
 case h_2 => cases hs
 rename_i k' a k'' b
 split at hs
 case isFalse => cases hs
 rename_i e
 obtain ⟨rfl, rfl⟩ := e
 cases hs
 refine ⟨by simp [lf82], ?_⟩
 have hn : ∀ x, sNaN .i64 [.int .i64 x] = some (.bool false) := fun x => rfl
 by_cases h1 : a < b
 ·simp [lf82, Tnan_mu, Tnan_i, hn, h1, cmpZ]
 ·by_cases h2 : a = b
  ·subst h2; simp [lf82, Tnan_mu, Tnan_i, hn, cmpZ]
  ·have h3 : b < a := by omega
   simp [lf82, Tnan_mu, Tnan_i, hn, h1, h2, h3, cmpZ]
def sTrim : List PVal → Option PVal
 | [.lst es] => match decU es with | some l => if l.length ≤ 1000000 then some (numP (val l)) else none | none => none
 | _ => none
theorem sTrim_map {l : List Nat} (h : Wf l) (h2 : l.length ≤ 1000000) : sTrim [.lst (l.map u64)] = some (.lst ((limbs (val l)).map u64)) := by
 simp only [sTrim, decU_map h, if_pos h2]; rfl
theorem trim_ok : FnOk Try.prog base 64 (pureS sTrim) := by
 refine pure_of_vc hmix Tab.none_ok globNone low64 fun args z hs hf => ?_
 unfold sTrim at hs
 split at hs
 case h_2 => cases hs
 rename_i es
 split at hs
 case h_2 => cases hs
 rename_i l hd
 split at hs
 case isFalse => cases hs
 rename_i hl
 obtain ⟨rfl, hw⟩ := decU_some hd
 cases hs
 refine ⟨by simp [lf64], ?_⟩
 simp [lf64]
 simp only [lf64_B0, vc_block]
 refine loop_ind (fun fr H => ∃ n : Nat, n ≤ l.length ∧ val (l.take n) = val l ∧ fr 0 = .p (.lst ((l.take n).map u64))) (fun fr _ => match fr 0 with | .p (.lst es) => es.length | _ => 0) ⟨l.length, by omega, by simp, by simp⟩ ?_
 rintro fr H ⟨n, hn, hv, h0⟩
 have hlen : (l.take n).length = n := by simp; omega
 by_cases h : 0 < n
 ·obtain ⟨x, hx⟩ : ∃ x, l[n - 1]? = some x := ⟨_, List.getElem?_eq_getElem (by omega)⟩
  have hx' : (l.take n)[n - 1]? = some x := by rw [List.getElem?_take]; simp [show n - 1 < n by omega, hx]
  have hw1 := wrap_pred (i := n) h (by omega)
  generalize hL : l.take n = L at *
  have hgx := getE hx'
  have hlt : n - 1 < L.length := by omega
  by_cases hz : x = 0
  ·subst hz
   simp [h0, hlen, h, hw1, hx']
   refine ⟨⟨n - 1, by omega, ?_, ?_⟩, by omega⟩
   ·have := trim_step (a := l) (n := n - 1) hx
    rw [show n - 1 + 1 = n by omega, hL] at this
    rw [← this, hv]
   ·rw [← hL, ← List.map_take, ← List.map_take, List.take_take, Nat.min_eq_left (by omega)]
  ·have hb : ((x : Int) == 0) = false := beq_false_of_ne (by omega)
   have hb2 : ((n : Int) == 0) = false := beq_false_of_ne (by omega)
   have hres : numP (val l) = .lst (L.map u64) := by
    have := trim_done (a := l) (n := n) hw (by rw [hL, hv]) (.inr ⟨x, hx, hz⟩)
    rw [hL] at this
    rw [this]; rfl
   simp [h0, hlen, h, hw1, hx', hb, hb2, hres]
 ·have hn0 : n = 0 := by omega
  subst hn0
  have hz : val l = 0 := by rw [← hv]; rfl
  simp [h0, hz, numP, lstP, limbs_zero]
def sValid : List PVal → Option PVal
 | [.lst es] => match decU es with | some l => some (.bool (decide (l.length ≤ 64) && decide (limbs (val l) = l))) | none => none
 | _ => none
theorem canon_last {l : List Nat} (h : Wf l) : limbs (val l) = l ↔ l.getLast? ≠ some 0 := by
 constructor
 ·intro e
  rw [← e]
  exact (canon_limbs _).2
 ·intro e
  exact limbs_val ⟨h, e⟩
theorem valid_ok : FnOk Try.prog base 90 (pureS sValid) := by
 refine pure_of_vc hmix Tab.none_ok globNone low90 fun args z hs hf => ?_
 unfold sValid at hs
 split at hs
 case h_2 => cases hs
 rename_i es
 split at hs
 case h_2 => cases hs
 rename_i l hd
 obtain ⟨rfl, hw⟩ := decU_some hd
 cases hs
 refine ⟨by simp [lf90], ?_⟩
 have hc := canon_last hw
 by_cases h1 : (l.length : Int) ≤ 64
 ·have h1' : l.length ≤ 64 := by omega
  by_cases h0 : l.length = 0
  ·have : l = [] := List.length_eq_zero_iff.1 h0
   subst this
   simp [lf90, val_nil, limbs_zero]
  ·have hw1 := wrap_pred (i := l.length) (by omega) (by omega)
   obtain ⟨x, hx⟩ : ∃ x, l[l.length - 1]? = some x := ⟨_, List.getElem?_eq_getElem (by omega)⟩
   have hb2 : ((l.length : Int) == 0) = false := beq_false_of_ne (by omega)
   have hlast : l.getLast? = some x := by rw [List.getLast?_eq_getElem?]; exact hx
   rw [hlast] at hc
   by_cases hz : x = 0
   ·subst hz
    have hne : ¬ limbs (val l) = l := fun e => hc.1 e rfl
    have hb : ((0 : Int) != 0) = false := rfl
    simp [lf90, h1, h1', hw1, hx, hb, hb2, hne]
   ·have hb : ((x : Int) != 0) = true := by simp; omega
    have heq : limbs (val l) = l := hc.2 (fun e => hz (by simpa using e))
    simp [lf90, h1, h1', hw1, hx, hb, hb2, heq]
 ·have h1' : ¬ l.length ≤ 64 := by omega
  simp [lf90, h1, h1']
def sOrder : List PVal → Option PVal
 | [.lst xs, .lst ys] => match decN xs, decN ys with | some a, some b => some (.int .i64 (cmpI a b)) | _, _ => none
 | _ => none
theorem sOrder_num {a b : Nat} (ha : len a ≤ 100000) (hb : len b ≤ 100000) : sOrder [.lst ((limbs a).map u64), .lst ((limbs b).map u64)] = some (.int .i64 (cmpI a b)) := by
 simp only [sOrder, decN_num ha, decN_num hb]
def Tcmp : Tab := (Tab.none.with 82 (pureS (sCompare .i64))).with 83 (pureS (sCompare .u64))
theorem Tcmp_ok : TabOk Try.prog base Tcmp := Tab.with_ok (Tab.with_ok Tab.none_ok compare_i_ok) compare_u_ok
theorem Tcmp_mu (f : FuncId) (a : List AVal) (H : Heap) : Tcmp.mu f a H = none := (rfl)
theorem Tcmp_i : Tcmp.fn 82 = pureS (sCompare .i64) := (rfl)
theorem Tcmp_u : Tcmp.fn 83 = pureS (sCompare .u64) := (rfl)
theorem sCompare_u (a b : Nat) : sCompare .u64 [.int .u64 a, .int .u64 b] = some (.int .i64 (cmpI a b)) := by simp [sCompare, cmpZ_nat]
theorem sCompare_i (a b : Nat) : sCompare .i64 [.int .i64 a, .int .i64 b] = some (.int .i64 (cmpI a b)) := by simp [sCompare, cmpZ_nat]
theorem cmpI_first {a b : List Nat} {i x y : Nat} (ha : Wf a) (hb : Wf b) (hd : a.drop (i + 1) = b.drop (i + 1)) (hx : a[i]? = some x) (hy : b[i]? = some y) (h : x ≠ y) : cmpI (val a) (val b) = cmpI x y := by
 by_cases h1 : x < y
 ·rw [cmpI_lt h1, cmpI_lt (lt_of_first ha hd hx hy h1)]
 ·have h2 : y < x := by omega
  rw [cmpI_gt h2, cmpI_gt (lt_of_first hb hd.symm hy hx h2)]
theorem order_ok : FnOk Try.prog base 66 (pureS sOrder) := by
 refine pure_of_vc hmix Tcmp_ok globNone low66 fun args z hs hf => ?_
 unfold sOrder at hs
 split at hs
 case h_2 => cases hs
 rename_i xs ys
 split at hs
 case h_2 => cases hs
 rename_i a b ha hb
 cases hs
 obtain ⟨rfl, hla⟩ := decN_some ha
 obtain ⟨rfl, hlb⟩ := decN_some hb
 refine ⟨by simp [lf66], ?_⟩
 have wa := wf_limbs a
 have wb := wf_limbs b
 have va := val_limbs a
 have vb := val_limbs b
 have la : len a = (limbs a).length := rfl
 have lb : len b = (limbs b).length := rfl
 by_cases h : (limbs a).length = (limbs b).length
 ·have hbn : (((limbs a).length : Int) != ((limbs b).length : Int)) = false := by simp [h]
  simp [lf66, hbn]
  simp only [lf66_B0, vc_block]
  refine loop_ind (fun fr H => ∃ n : Nat, n ≤ (limbs a).length ∧ (limbs a).drop n = (limbs b).drop n ∧ fr 0 = .p (.lst ((limbs a).map u64)) ∧ fr 1 = .p (.lst ((limbs b).map u64)) ∧ fr 5 = .p (.int .i64 ((n : Int) - 1)))
   (fun fr _ => dvar (fr 5)) ⟨(limbs a).length, by omega, by rw [List.drop_length, h, List.drop_length], by simp, by simp, ?_⟩ ?_
  ·rw [← h]
   simp [IntWalk.i64_in ((limbs a).length - 1) (by omega)]
  rintro fr H ⟨n, hn, hd, h0, h1, h5⟩
  by_cases hn0 : 0 < n
  ·obtain ⟨m, rfl⟩ : ∃ m, n = m + 1 := ⟨n - 1, by omega⟩
   have e5 : (((m + 1 : Nat) : Int) - 1) = (m : Int) := by omega
   rw [e5] at h5
   obtain ⟨x, hx⟩ : ∃ x, (limbs a)[m]? = some x := ⟨_, List.getElem?_eq_getElem (by omega)⟩
   obtain ⟨y, hy⟩ : ∃ y, (limbs b)[m]? = some y := ⟨_, List.getElem?_eq_getElem (by omega)⟩
   by_cases hxy : x = y
   ·subst hxy
    have hw : IntKind.i64.wrap ((m : Int) - 1) = (m : Int) - 1 := IntWalk.i64_in _ (by omega)
    simp [h0, h1, h5, hx, hy, hw, dvar]
    exact ⟨m, by omega, by rw [drop_get hx, drop_get hy, hd], rfl⟩
   ·have hb : ((x : Int) != (y : Int)) = true := by simp; omega
    have hc : cmpI a b = cmpI x y := by
     have := cmpI_first wa wb hd hx hy hxy
     rwa [va, vb] at this
    simp [h0, h1, h5, hx, hy, hb, Tcmp_mu, Tcmp_u, sCompare_u, hc]
  ·have : n = 0 := by omega
   subst this
   have e : a = b := by
    rw [List.drop_zero, List.drop_zero] at hd
    rw [← va, ← vb, hd]
   subst e
   simp [h5, cmpI_eq]
 ·have hbn : (((limbs a).length : Int) != ((limbs b).length : Int)) = true := by simp; omega
  have hc : cmpI a b = cmpI (limbs a).length (limbs b).length := by
   by_cases h1 : (limbs a).length < (limbs b).length
   ·rw [cmpI_lt h1, cmpI_lt (lt_of_len h1)]
   ·have h2 : (limbs b).length < (limbs a).length := by omega
    rw [cmpI_gt h2, cmpI_gt (lt_of_len h2)]
  simp [lf66, hbn, Tcmp_mu, Tcmp_i, sCompare_i, hc]
end Go.Proofs.Ytbdccebpehogjaa

/-
 nat: sums and differences.
-/
namespace Go.Proofs.Ytbdccebpehogjaa
open Go Go.Abs Go.Limbs
variable {base : Prot}
set_option maxRecDepth 20000
attribute [local irreducible] vc
attribute [local simp] pureS touchV freezeL fuel shiftV u64
def au (n : Nat) : AVal := .p (.int .u64 n)
attribute [local simp] au
def rowE (ver : Nat) (l : List Nat) : Ent := ⟨1, ver, false, l.map au, 56⟩
theorem mapO_au (H : Heap) (n : Nat) : ∀ l : List Nat, mapO (resolveV H n) (l.map au) = some (l.map u64)
 | [] => rfl
 | x :: r => by simp [au, mapO, resolveV, mapO_au H n r]
theorem mapO_au_take (H : Heap) (n k : Nat) (l : List Nat) : mapO (resolveV H n) (List.take k (l.map au)) = some (List.take k (l.map u64)) := by rw [← List.map_take, mapO_au, List.map_take]
theorem touch_au (H : Heap) (n : Nat) : ∀ l : List Nat, (l.map au).flatMap (touchV H n) = []
 | [] => rfl
 | x :: r => by rw [List.map_cons, List.flatMap_cons, touch_au H n r]; cases n <;> simp [au, touchV]
theorem touch_au_take (H : Heap) (n k : Nat) (l : List Nat) : (List.take k (l.map au)).flatMap (touchV H n) = [] := by rw [← List.map_take, touch_au]
theorem add64_at : ∀ ps x, sAdd64 ps = some x → ExtOk Try.prog 94 ps x := by
 obtain ⟨fn, hfn⟩ : ∃ fn, Try.prog.funcs[94]? = some fn := ⟨_, rfl⟩
 refine add64_ext hfn ?_ ?_ ?_ ?_ <;> (cases hfn; kernel_rfl)
theorem sub64_at : ∀ ps x, sSub64 ps = some x → ExtOk Try.prog 99 ps x := by
 obtain ⟨fn, hfn⟩ : ∃ fn, Try.prog.funcs[99]? = some fn := ⟨_, rfl⟩
 refine sub64_ext hfn ?_ ?_ ?_ ?_ <;> (cases hfn; kernel_rfl)
def Tadd : Tab := ((Tab.none.with 64 (pureS sTrim)).ext 94 sAdd64).ext 99 sSub64
theorem Tadd_ok : TabOk Try.prog base Tadd := Tab.ext_ok (Tab.ext_ok (Tab.with_ok Tab.none_ok trim_ok) add64_at) sub64_at
theorem mul_cap (n : Nat) (h : n ≤ 1000000) : n * 8 ≤ 140737488355328 ∧ n ≤ maxLen := ⟨by omega, Nat.le_trans h (Nat.le_trans (by omega) maxLen_ge)⟩
theorem mul_capI (n : Nat) (h : n ≤ 1000000) : (n : Int) * 8 ≤ 140737488355328 ∧ (n : Int) ≤ maxLen := by
 have := mul_cap n h
 omega
def sPlus : List PVal → Option PVal
 | [.lst xs, .lst ys] => match decN xs, decN ys with | some a, some b => some (numP (a + b)) | _, _ => none
 | _ => none
theorem sPlus_num {a b : Nat} (ha : len a ≤ 100000) (hb : len b ≤ 100000) : sPlus [.lst ((limbs a).map u64), .lst ((limbs b).map u64)] = some (.lst ((limbs (a + b)).map u64)) := by
 simp only [sPlus, decN_num ha, decN_num hb]; rfl
end Go.Proofs.Ytbdccebpehogjaa

/-
 nat: differences.
-/
namespace Go.Proofs.Ytbdccebpehogjaa
open Go Go.Abs Go.Limbs
variable {base : Prot}
set_option maxRecDepth 20000
attribute [local irreducible] vc
attribute [local simp] pureS touchV freezeL fuel shiftV u64 au
def sMinus : List PVal → Option PVal
 | [.lst xs, .lst ys] => match decN xs, decN ys with | some a, some b => if b ≤ a then some (numP (a - b)) else none | _, _ => none
 | _ => none
theorem sMinus_num {a b : Nat} (ha : len a ≤ 100000) (hb : len b ≤ 100000) (h : b ≤ a) : sMinus [.lst ((limbs a).map u64), .lst ((limbs b).map u64)] = some (.lst ((limbs (a - b)).map u64)) := by
 simp only [sMinus, decN_num ha, decN_num hb, if_pos h]; rfl
theorem row_end {l : List Nat} {n k : Nat} (hl : l.length = k) (hw : Wf l) (hle : k ≤ 1000000) (hv : val l = n) : List.take k (l.map u64) = l.map u64 ∧ sTrim [.lst (l.map u64)] = some (numP n) := by
 refine ⟨List.take_of_length_le (by simp; omega), ?_⟩
 have := sTrim_map hw (by omega)
 rw [hv] at this
 exact this
end Go.Proofs.Ytbdccebpehogjaa

/-
 math/bits: Mul64.
-/
namespace Go.Proofs.Ytbdccebpehogjaa
open Go Go.Abs Go.Limbs
variable {base : Prot}
set_option maxRecDepth 20000
attribute [local irreducible] vc
attribute [local simp] pureS touchV freezeL fuel shiftV u64 au
def mulH (x y : Nat) : Nat := x * y / B
def mulL (x y : Nat) : Nat := x * y % B
def sMul64 : List PVal → Option PVal
 | [.int .u64 x, .int .u64 y] => if 0 ≤ x ∧ x.toNat < B ∧ 0 ≤ y ∧ y.toNat < B then some (.tup [.int .u64 (mulH x.toNat y.toNat), .int .u64 (mulL x.toNat y.toNat)]) else none
 | _ => none
theorem sMul64_nat {x y : Nat} (hx : x < B) (hy : y < B) : sMul64 [.int .u64 x, .int .u64 y] = some (.tup [.int .u64 (mulH x y), .int .u64 (mulL x y)]) := by
 have : (0 : Int) ≤ x ∧ (x : Int).toNat < B ∧ (0 : Int) ≤ y ∧ (y : Int).toNat < B := by simp [hx, hy]
 show (if (0 : Int) ≤ x ∧ (x : Int).toNat < B ∧ (0 : Int) ≤ y ∧ (y : Int).toNat < B then _ else none) = _
 rw [if_pos this]
 simp
def lo32 (x : Nat) : Nat := x % 4294967296
def hi32 (x : Nat) : Nat := x / 4294967296
theorem low_mask {x : Nat} (hx : x < B) : IntKind.u64.wrap ((BitVec.ofNat IntKind.u64.bits x &&& 4294967295#IntKind.u64.bits).toNat : Int) = (lo32 x : Int) := by
 have h := and_wrap (a := x) (b := 4294967295) hx (by decide)
 rw [show (4294967295 : Nat) = 2 ^ 32 - 1 from rfl, Nat.and_two_pow_sub_one_eq_mod, bv_ofInt, bv_ofInt] at h
 exact h
theorem or_bits {x y : Nat} (hx : x < B) (hy : y < B) : IntKind.u64.wrap ((BitVec.ofNat IntKind.u64.bits x ||| BitVec.ofNat IntKind.u64.bits y).toNat : Int) = ((x ||| y : Nat) : Int) := by
 have h := or_wrap hx hy
 rw [bv_ofInt, bv_ofInt] at h
 exact h
theorem shr_word {x s : Nat} (h : s ≤ 64) : shiftI .shr .u64 x s = some (.int .u64 (x / 2 ^ s : Nat)) := by
 have h1 : ¬ (s : Int) < 0 := by omega
 have h2 : min s IntKind.u64.bits = s := Nat.min_eq_left h
 simp only [shiftI, if_neg h1, Int.toNat_natCast, h2, fdiv_pow]
theorem shr32 (x : Nat) : shiftI .shr .u64 x 32 = some (.int .u64 (hi32 x)) := shr_word (x := x) (s := 32) (by omega)
theorem shl_word {x s : Nat} (h : s ≤ 64) : shiftI .shl .u64 x s = some (.int .u64 (x * 2 ^ s % B : Nat)) := by
 have h1 : ¬ (s : Int) < 0 := by omega
 have h2 : min s IntKind.u64.bits = s := Nat.min_eq_left h
 simp only [shiftI, if_neg h1, Int.toNat_natCast, h2]
 have h3 : (x : Int) * 2 ^ s = ((x * 2 ^ s : Nat) : Int) := by simp
 rw [h3, wrap_um]
theorem mul64_ok : FnOk Try.prog base 93 (pureS sMul64) := by
 refine pure_of_vc hmix Tab.none_ok globNone low93 fun args z hs hf => ?_
 unfold sMul64 at hs
 split at hs
 case h_2 => cases hs
 rename_i x y
 split at hs
 case isFalse => cases hs
 rename_i hc
 cases hs
 obtain ⟨x, rfl⟩ := Int.eq_ofNat_of_zero_le hc.1
 obtain ⟨y, rfl⟩ := Int.eq_ofNat_of_zero_le hc.2.2.1
 simp only [Int.toNat_natCast] at hc ⊢
 obtain ⟨-, hx, -, hy⟩ := hc
 refine ⟨by simp [lf93], ?_⟩
 obtain ⟨q1, q2, q3, q4⟩ := Lib.mul64_hi x y hx hy
 have ml : IntKind.u64.wrap ((x : Int) * y) = (mulL x y : Int) := wrap_u_mul x y
 have mx := low_mask hx
 have my := low_mask hy
 have hb : hi32 x * hi32 y ≤ 18446744065119617025 := Lib.half_mul_le (by unfold hi32; rw [B_lit] at hx; omega) (by unfold hi32; rw [B_lit] at hy; omega)
 have hb2 : hi32 x * lo32 y ≤ 18446744065119617025 := Lib.half_mul_le (by unfold hi32; rw [B_lit] at hx; omega) (by unfold lo32; omega)
 have hb3 : lo32 x * hi32 y ≤ 18446744065119617025 := Lib.half_mul_le (by unfold lo32; omega) (by unfold hi32; rw [B_lit] at hy; omega)
 have hlt : mulH x y < B := by unfold mulH; rw [Nat.div_lt_iff_lt_mul B_pos]; exact Nat.mul_lt_mul'' hx hy
 rw [show x * y / 18446744073709551616 = mulH x y from rfl] at q4
 rw [show x % 4294967296 = lo32 x from rfl, show y % 4294967296 = lo32 y from rfl, show x / 4294967296 = hi32 x from rfl, show y / 4294967296 = hi32 y from rfl] at *
 obtain ⟨w0, hw0⟩ : ∃ w, w = lo32 x * lo32 y := ⟨_, rfl⟩
 obtain ⟨p1, hp1⟩ : ∃ w, w = hi32 x * lo32 y := ⟨_, rfl⟩
 obtain ⟨p2, hp2⟩ : ∃ w, w = lo32 x * hi32 y := ⟨_, rfl⟩
 obtain ⟨p3, hp3⟩ : ∃ w, w = hi32 x * hi32 y := ⟨_, rfl⟩
 rw [← hw0, ← hp1, ← hp2, ← hp3] at q4
 rw [← hw0] at q1
 rw [← hw0, ← hp1] at q2
 rw [← hw0, ← hp1, ← hp2] at q3
 rw [← hp3] at hb
 rw [← hp1] at hb2
 rw [← hp2] at hb3
 rw [show w0 / 4294967296 = hi32 w0 from rfl] at *
 obtain ⟨t, ht⟩ : ∃ t, t = p1 + hi32 w0 := ⟨_, rfl⟩
 rw [← ht] at q4 q2 q3
 rw [show t % 4294967296 = lo32 t from rfl] at q4 q3
 rw [show t / 4294967296 = hi32 t from rfl] at q4
 obtain ⟨w1, hw1⟩ : ∃ w, w = lo32 t + p2 := ⟨_, rfl⟩
 rw [← hw1] at q4 q3
 rw [show w1 / 4294967296 = hi32 w1 from rfl] at q4
 obtain ⟨s1, hs1⟩ : ∃ w, w = p3 + hi32 t := ⟨_, rfl⟩
 rw [← hs1] at q4
 have e : ∀ {m n k : Nat}, k = m * n → k < B → IntKind.u64.wrap ((m : Int) * n) = (k : Int) := fun {m n k} h h2 => by rw [wrap_u_mul, ← h, Nat.mod_eq_of_lt h2]
 have e2 : ∀ {m n k : Nat}, k = m + n → k < B → IntKind.u64.wrap ((m : Int) + n) = (k : Int) := fun {m n k} h h2 => by rw [wrap_u_mod, ← h, Nat.mod_eq_of_lt h2]
 have g0 := e hw0 q1
 have g1 := e hp1 (by rw [B_lit]; omega)
 have g2 := e2 ht q2
 have g3 := low_mask (x := t) q2
 have g4 := e hp2 (by rw [B_lit]; omega)
 have g5 := e2 hw1 q3
 have g6 := e hp3 (by rw [B_lit]; omega)
 have g7 := e2 hs1 (by omega)
 have g8 := e2 q4.symm hlt
 simp [-BitVec.toNat_and, lf93, shr32, ml, mx, my, g0, g1, g2, g3, g4, g5, g6, g7, g8]
end Go.Proofs.Ytbdccebpehogjaa

/-
 nat: row, which adds a multiple of a number to a part of an own row of limbs.
-/
namespace Go.Proofs.Ytbdccebpehogjaa
open Go Go.Abs Go.Limbs
variable {base : Prot}
set_option maxRecDepth 20000
attribute [local irreducible] vc
attribute [local simp] pureS touchV freezeL fuel shiftV u64 au
theorem set_same {α : Type} {l : List α} {k : Nat} {x : α} (h : l[k]? = some x) : l.set k x = l := by
 refine List.ext_getElem? fun i => ?_
 rw [List.getElem?_set]
 split
 ·rename_i e
  subst e
  have := (List.getElem?_eq_some_iff.1 h).1
  simp only [this, if_true, h]
 ·rfl
def join (p s q : List Nat) : List Nat := p ++ s ++ q
theorem join_get {p s q : List Nat} {i : Nat} (h : i < s.length) : (join p s q)[p.length + i]? = s[i]? := by
 unfold join
 rw [List.append_assoc, List.getElem?_append_right (by omega), List.getElem?_append_left (by omega)]
 congr 1
 omega
theorem join_set {p s q : List Nat} {i : Nat} (h : i < s.length) (x : Nat) : ((join p s q).map au).set (p.length + i) (AVal.p (.int .u64 x)) = (join p (s.set i x) q).map au := by
 unfold join
 rw [show AVal.p (.int .u64 x) = au x from rfl, ← List.map_set, List.append_assoc, List.append_assoc, List.set_append_right _ _ (by omega), List.set_append_left _ _ (by omega)]
 congr 5
 omega
theorem join_split (l : List Nat) {off n : Nat} (h : off + n ≤ l.length) : l = join (l.take off) ((l.drop off).take n) (l.drop (off + n)) := by
 unfold join
 rw [List.append_assoc, ← List.drop_drop, List.take_append_drop, List.take_append_drop]
theorem join_length (p s q : List Nat) : (join p s q).length = p.length + s.length + q.length := by unfold join; simp; omega
def decA : List AVal → Option (List Nat)
 | [] => some []
 | .p (.int .u64 z) :: r => if 0 ≤ z ∧ z.toNat < B then (match decA r with | some l => some (z.toNat :: l) | none => none) else none
 | _ :: _ => none
theorem decA_map : ∀ {l : List Nat}, Wf l → decA (l.map au) = some l
 | [], _ => rfl
 | x :: r, h => by
  have hx := h.head
  have : (0 : Int) ≤ (x : Int) ∧ (x : Int).toNat < B := by simpa using hx
  simp only [List.map_cons, au, decA, if_pos this]
  rw [decA_map h.tail]
  simp
theorem decA_some : ∀ {es : List AVal} {l : List Nat}, decA es = some l → es = l.map au ∧ Wf l
 | [], l, h => by simp [decA] at h; subst h; exact ⟨rfl, Wf.nil⟩
 | x :: r, l, h => by
  unfold decA at h
  split at h
  ·rename_i e; cases e
  ·rename_i z r' e
   cases e
   split at h
   ·rename_i hz
    cases hd : decA r with
    | none => rw [hd] at h; cases h
    | some l' =>
     rw [hd] at h
     cases h
     obtain ⟨h1, h2⟩ := decA_some hd
     obtain ⟨m, rfl⟩ := Int.eq_ofNat_of_zero_le hz.1
     exact ⟨by rw [h1]; simp [au], Wf.cons hz.2 h2⟩
   ·cases h
  ·cases h
def rowO (H : Heap) (k off n ver : Nat) : Option (List Nat) := match H[k]? with
 | some e => if e.size = 1 ∧ e.ver = ver ∧ e.froz = false ∧ e.ty = 56 then (match decA e.elems with | some l => if off + n ≤ l.length ∧ l.length ≤ 1000000 then some l else none | none => none) else none
 | none => none
theorem rowO_some {H : Heap} {k off n ver : Nat} {l : List Nat} (h : rowO H k off n ver = some l) : H[k]? = some (rowE ver l) ∧ Wf l ∧ off + n ≤ l.length ∧ l.length ≤ 1000000 := by
 unfold rowO at h
 split at h
 case h_2 => cases h
 rename_i e he
 split at h
 case isFalse => cases h
 rename_i hc
 split at h
 case h_2 => cases h
 rename_i l' hl
 split at h
 case isFalse => cases h
 rename_i hle
 cases h
 obtain ⟨h1, h2⟩ := decA_some hl
 refine ⟨?_, h2, hle.1, hle.2⟩
 obtain ⟨a, b, c, d, f⟩ := e
 simp only at hc h1
 obtain ⟨rfl, rfl, rfl, rfl⟩ := hc
 rw [he, h1]; rfl
theorem rowO_at {H : Heap} {k off n ver : Nat} {l : List Nat} (h : H[k]? = some (rowE ver l)) (hw : Wf l) (hl : off + n ≤ l.length) (hm : l.length ≤ 1000000) : rowO H k off n ver = some l := by
 unfold rowO
 rw [h]
 simp only [rowE, decA_map hw, hl, hm, and_self, if_true]
def part (l : List Nat) (off n v : Nat) : List Nat := join (l.take off) (fix n v) (l.drop (off + n))
theorem part_wf {l : List Nat} (h : Wf l) (off n v : Nat) : Wf (part l off n v) := ((h.take off).append (wf_fix n v)).append (h.drop _)
theorem part_length {l : List Nat} {off n : Nat} (h : off + n ≤ l.length) (v : Nat) : (part l off n v).length = l.length := by
 unfold part; rw [join_length, length_fix]; simp; omega
def seg (l : List Nat) (off n : Nat) : Nat := val ((l.drop off).take n)
theorem below_row {n : Nat} {H : Heap} (h : BelowH n H) (k ver : Nat) (l : List Nat) : BelowH n (H.set k (rowE ver l)) := by
 intro e he x hx y hy
 rcases List.mem_or_eq_of_mem_set he with h1 | h1
 ·exact h e h1 x hx y hy
 ·subst h1
  simp only [rowE, List.mem_map] at hx
  obtain ⟨m, _, rfl⟩ := hx
  simp [au, AVal.cells, PVal.cells] at hy
  subst hy
  exact .p _
def Trow : Tab := Tadd.with 93 (pureS sMul64)
theorem Trow_ok : TabOk Try.prog base Trow := Tab.with_ok Tadd_ok mul64_ok
theorem Trow_mu (f : FuncId) (a : List AVal) (H : Heap) : Trow.mu f a H = none := (rfl)
theorem Trow_mul : Trow.fn 93 = pureS sMul64 := (rfl)
theorem Trow_add : Trow.ex 94 = sAdd64 := (rfl)
theorem Trow_sub : Trow.ex 99 = sSub64 := (rfl)
end Go.Proofs.Ytbdccebpehogjaa

/-
 nat: products.
-/
namespace Go.Proofs.Ytbdccebpehogjaa
open Go Go.Abs Go.Limbs
variable {base : Prot}
set_option maxRecDepth 20000
attribute [local irreducible] vc
attribute [local simp] pureS touchV freezeL fuel shiftV u64 au
theorem seg_eq {l : List Nat} (h : Wf l) (off n : Nat) : seg l off n = val l / B ^ off % B ^ n := by
 unfold seg
 rw [val_take_eq (h.drop off), val_drop_eq h]
theorem part_val {l : List Nat} {off n v : Nat} (h : off + n ≤ l.length) (hv : v < B ^ n) : val (part l off n v) + B ^ off * seg l off n = val l + B ^ off * v := by
 have e : val l = val (join (l.take off) ((l.drop off).take n) (l.drop (off + n))) := by rw [← join_split l h]
 rw [e]
 unfold part join seg
 have h1 : (l.take off).length = off := by simp; omega
 have h2 : ((l.drop off).take n).length = n := by simp; omega
 rw [val_append, val_append, val_append, val_append, List.length_append, List.length_append, length_fix, h1, h2, val_fix_of hv]
 omega
def sTimes : List PVal → Option PVal
 | [.lst xs, .lst ys] => match decN xs, decN ys with | some a, some b => some (numP (a * b)) | _, _ => none
 | _ => none
theorem sTimes_num {a b : Nat} (ha : len a ≤ 100000) (hb : len b ≤ 100000) : sTimes [.lst ((limbs a).map u64), .lst ((limbs b).map u64)] = some (.lst ((limbs (a * b)).map u64)) := by
 simp only [sTimes, decN_num ha, decN_num hb]; rfl
end Go.Proofs.Ytbdccebpehogjaa
