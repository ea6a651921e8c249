/-
  Natural numbers as rows of limbs. No conditions beyond the lemmas' own hypotheses. The lowered code of the functions of nat and bits, each equal to what the program's form lowers to. No conditions.
-/
import Derived.Lib.ItoaNum
import Derived.Test.YtgbjjikaenlkmaaGreatAbsThree
import Derived.Laws.Externs
import Derived.IntWalk
import Derived.Test.YtgbjjikaenlkmaaGreatAbsTwo
import Derived.Test.YtgbjjikaenlkmaaGreatProg
import Derived.KernelRfl
set_option linter.unusedSimpArgs false
set_option linter.unnecessarySimpa false
set_option linter.unusedVariables false
set_option linter.constructorNameAsVariable false

/-
 LIMBS, part A: natural numbers as rows of limbs, the lowest first. No program in sight.
-/
namespace Go.Limbs
def B : Nat := 18446744073709551616
theorem B_pos : 0 < B := by decide
theorem B_one : 1 < B := by decide
def val : List Nat → Nat
 | [] => 0
 | x :: r => x + B * val r
def Wf (l : List Nat) : Prop := ∀ x ∈ l, x < B
def limbs (n : Nat) : List Nat := if _h : n = 0 then [] else n % B :: limbs (n / B)
termination_by n
decreasing_by exact Nat.div_lt_self (by omega) B_one
def fix : Nat → Nat → List Nat
 | 0, _ => []
 | k + 1, n => n % B :: fix k (n / B)
def Canon (l : List Nat) : Prop := Wf l ∧ l.getLast? ≠ some 0
theorem limbs_zero : limbs 0 = [] := by rw [limbs]; simp
theorem limbs_pos {n : Nat} (h : n ≠ 0) : limbs n = n % B :: limbs (n / B) := by rw [limbs]; simp [h]
theorem limbs_small {n : Nat} (h : n ≠ 0) (h2 : n < B) : limbs n = [n] := by
 rw [limbs_pos h, Nat.mod_eq_of_lt h2, Nat.div_eq_of_lt h2, limbs_zero]
theorem Wf.nil : Wf [] := fun x h => by simp at h
theorem Wf.cons {x : Nat} {l : List Nat} (h : x < B) (r : Wf l) : Wf (x :: l) := fun y hy => by
 rcases List.mem_cons.1 hy with rfl | h1
 ·exact h
 ·exact r y h1
theorem Wf.head {x : Nat} {l : List Nat} (h : Wf (x :: l)) : x < B := h x (by simp)
theorem Wf.tail {x : Nat} {l : List Nat} (h : Wf (x :: l)) : Wf l := fun y hy => h y (by simp [hy])
theorem Wf.append {a b : List Nat} (h : Wf a) (r : Wf b) : Wf (a ++ b) := fun x hx => by
 rcases List.mem_append.1 hx with h1 | h1
 ·exact h x h1
 ·exact r x h1
theorem Wf.left {a b : List Nat} (h : Wf (a ++ b)) : Wf a := fun x hx => h x (by simp [hx])
theorem Wf.right {a b : List Nat} (h : Wf (a ++ b)) : Wf b := fun x hx => h x (by simp [hx])
theorem Wf.take {a : List Nat} (h : Wf a) (n : Nat) : Wf (a.take n) := fun x hx => h x (List.mem_of_mem_take hx)
theorem Wf.drop {a : List Nat} (h : Wf a) (n : Nat) : Wf (a.drop n) := fun x hx => h x (List.mem_of_mem_drop hx)
theorem Wf.get {a : List Nat} (h : Wf a) {i x : Nat} (hx : a[i]? = some x) : x < B := h x (List.mem_of_getElem? hx)
theorem Wf.zeros (n : Nat) : Wf (List.replicate n 0) := fun x hx => by
 rw [List.mem_replicate] at hx
 rw [hx.2]; exact B_pos
theorem Wf.set {a : List Nat} (h : Wf a) (i : Nat) {x : Nat} (hx : x < B) : Wf (a.set i x) := fun y hy => by
 rcases List.mem_or_eq_of_mem_set hy with h1 | h1
 ·exact h y h1
 ·subst h1; exact hx
theorem val_nil : val [] = 0 := rfl
theorem val_cons (x : Nat) (r : List Nat) : val (x :: r) = x + B * val r := rfl
theorem val_append : ∀ (a b : List Nat), val (a ++ b) = val a + B ^ a.length * val b
 | [], b => by simp [val]
 | x :: r, b => by
  rw [List.cons_append, val_cons, val_append r b, val_cons, List.length_cons, Nat.pow_succ]
  grind
theorem val_snoc (a : List Nat) (x : Nat) : val (a ++ [x]) = val a + B ^ a.length * x := by rw [val_append]; simp [val]
theorem val_zeros : ∀ n : Nat, val (List.replicate n 0) = 0
 | 0 => rfl
 | n + 1 => by rw [List.replicate_succ, val_cons, val_zeros n]; simp
theorem val_pad (a : List Nat) (n : Nat) : val (a ++ List.replicate n 0) = val a := by rw [val_append, val_zeros]; simp
theorem val_lt : ∀ {a : List Nat}, Wf a → val a < B ^ a.length
 | [], _ => by simp [val]
 | x :: r, h => by
  have h1 := h.head
  have h2 := val_lt h.tail
  rw [val_cons, List.length_cons, Nat.pow_succ]
  have h3 : B * (val r + 1) ≤ B * B ^ r.length := Nat.mul_le_mul_left _ h2
  rw [Nat.mul_add] at h3
  rw [Nat.mul_comm (B ^ r.length)]
  omega
theorem Bpow_pos (n : Nat) : 0 < B ^ n := Nat.pow_pos B_pos
theorem wf_limbs : ∀ n : Nat, Wf (limbs n) := by
 intro n
 induction n using Nat.strongRecOn with
 | _ n ih =>
  by_cases h : n = 0
  ·subst h; rw [limbs_zero]; exact Wf.nil
  ·rw [limbs_pos h]
   exact Wf.cons (Nat.mod_lt _ B_pos) (ih _ (Nat.div_lt_self (by omega) B_one))
theorem val_limbs : ∀ n : Nat, val (limbs n) = n := by
 intro n
 induction n using Nat.strongRecOn with
 | _ n ih =>
  by_cases h : n = 0
  ·subst h; rw [limbs_zero]; rfl
  ·rw [limbs_pos h, val_cons, ih _ (Nat.div_lt_self (by omega) B_one)]
   exact Nat.mod_add_div n B
theorem limbs_eq_nil {n : Nat} : limbs n = [] ↔ n = 0 := ⟨fun h => by rw [← val_limbs n, h]; rfl, fun h => by rw [h, limbs_zero]⟩
theorem Canon.tail {x : Nat} {l : List Nat} (h : Canon (x :: l)) : Canon l := by
 refine ⟨h.1.tail, fun e => h.2 ?_⟩
 rw [List.getLast?_cons, e]; rfl
theorem limbs_val : ∀ {a : List Nat}, Canon a → limbs (val a) = a
 | [], _ => by rw [val_nil, limbs_zero]
 | x :: r, h => by
  have hx := h.1.head
  have ih := limbs_val h.tail
  have hB := B_pos
  rw [val_cons]
  by_cases hz : x + B * val r = 0
  ·have hr : val r = 0 := by
    have h3 : B * val r = 0 := by omega
    rcases Nat.mul_eq_zero.1 h3 with h4 | h4
    ·omega
    ·exact h4
   have hx0 : x = 0 := by omega
   have hr2 : r = [] := by rw [← ih, hr, limbs_zero]
   subst hr2 hx0
   exact absurd rfl h.2
  ·rw [limbs_pos hz, Nat.add_mul_mod_self_left, Nat.mod_eq_of_lt hx, Nat.add_mul_div_left _ _ hB, Nat.div_eq_of_lt hx, Nat.zero_add, ih]
theorem canon_limbs (n : Nat) : Canon (limbs n) := by
 refine ⟨wf_limbs n, ?_⟩
 induction n using Nat.strongRecOn with
 | _ n ih =>
  by_cases h : n = 0
  ·subst h; rw [limbs_zero]; simp
  ·rw [limbs_pos h, List.getLast?_cons]
   have hi := ih _ (Nat.div_lt_self (Nat.pos_of_ne_zero h) B_one)
   intro e
   cases hl : (limbs (n / B)).getLast? with
   | some y =>
    rw [hl] at e hi
    exact hi e
   | none =>
    rw [hl] at e
    have h1 : limbs (n / B) = [] := List.getLast?_eq_none_iff.1 hl
    have h2 := limbs_eq_nil.1 h1
    have h3 : n % B = 0 := by simpa using e
    have h4 := Nat.mod_add_div n B
    rw [h2, h3] at h4
    omega
def len (n : Nat) : Nat := (limbs n).length
theorem lt_len (n : Nat) : n < B ^ len n := by
 have := val_lt (wf_limbs n)
 rwa [val_limbs] at this
theorem len_le {n k : Nat} (h : n < B ^ k) : len n ≤ k := by
 unfold len
 induction k generalizing n with
 | zero =>
  have : n = 0 := by simpa using h
  subst this
  simp [limbs_zero]
 | succ k ih =>
  by_cases hn : n = 0
  ·subst hn; simp [limbs_zero]
  ·rw [limbs_pos hn]
   have h2 : n / B < B ^ k := by
    rw [Nat.div_lt_iff_lt_mul B_pos, ← Nat.pow_succ]; exact h
   have := ih h2
   simp only [List.length_cons]
   omega
theorem Bpow_le {m n : Nat} (h : m ≤ n) : B ^ m ≤ B ^ n := Nat.pow_le_pow_right B_pos h
theorem len_le_iff {n k : Nat} : len n ≤ k ↔ n < B ^ k := ⟨fun h => Nat.lt_of_lt_of_le (lt_len n) (Bpow_le h), len_le⟩
theorem lt_len_iff {n k : Nat} : k < len n ↔ B ^ k ≤ n := by
 have := @len_le_iff n k
 omega
theorem len_ge {n : Nat} (h : n ≠ 0) : B ^ (len n - 1) ≤ n := by
 have h1 : len n ≠ 0 := fun e => h (limbs_eq_nil.1 (List.length_eq_zero_iff.1 e))
 exact lt_len_iff.1 (by omega)
theorem len_mono {m n : Nat} (h : m ≤ n) : len m ≤ len n := len_le_iff.2 (Nat.lt_of_le_of_lt h (lt_len n))
theorem len_eq_zero {n : Nat} : len n = 0 ↔ n = 0 := by rw [len, List.length_eq_zero_iff, limbs_eq_nil]
theorem len_zero : len 0 = 0 := len_eq_zero.2 rfl
theorem lt_of_len {m n : Nat} (h : len m < len n) : m < n := by
 have h1 := lt_len m
 have h2 := lt_len_iff.1 h
 omega
theorem len_add (m n : Nat) : len (m + n) ≤ max (len m) (len n) + 1 := by
 refine len_le ?_
 have h1 := lt_len m
 have h2 := lt_len n
 have h3 := Bpow_le (Nat.le_max_left (len m) (len n))
 have h4 := Bpow_le (Nat.le_max_right (len m) (len n))
 rw [Nat.pow_succ]
 have h5 : B ^ max (len m) (len n) * 2 ≤ B ^ max (len m) (len n) * B := Nat.mul_le_mul_left _ B_one
 omega
theorem len_mul (m n : Nat) : len (m * n) ≤ len m + len n := by
 refine len_le ?_
 rw [Nat.pow_add]
 exact Nat.mul_lt_mul'' (lt_len m) (lt_len n)
theorem top_mod {T P m : Nat} (h : T < P) : (T + P * m) % (P * B) = T + P * (m % B) := by
 rw [Nat.mod_mul, Nat.add_mul_mod_self_left, Nat.mod_eq_of_lt h, Nat.add_mul_div_left _ _ (by omega), Nat.div_eq_of_lt h, Nat.zero_add]
theorem length_fix : ∀ (k n : Nat), (fix k n).length = k
 | 0, _ => rfl
 | k + 1, n => by simp [fix, length_fix k]
theorem wf_fix : ∀ (k n : Nat), Wf (fix k n)
 | 0, _ => Wf.nil
 | k + 1, n => Wf.cons (Nat.mod_lt _ B_pos) (wf_fix k _)
theorem fix_val : ∀ (a : List Nat) (k : Nat), Wf a → a.length = k → fix k (val a) = a
 | [], k, _, h => by subst h; rfl
 | x :: r, k, h, hl => by
  subst hl
  have hx := h.head
  simp only [List.length_cons, fix, val_cons]
  rw [Nat.add_mul_mod_self_left, Nat.mod_eq_of_lt hx, Nat.add_mul_div_left _ _ B_pos, Nat.div_eq_of_lt hx, Nat.zero_add, fix_val r _ h.tail rfl]
theorem val_fix : ∀ (k n : Nat), val (fix k n) = n % B ^ k
 | 0, n => by simp [fix, val, Nat.mod_one]
 | k + 1, n => by
  rw [fix, val_cons, val_fix k, Nat.pow_succ, Nat.mul_comm (B ^ k) B, Nat.mod_mul]
theorem val_fix_of {k n : Nat} (h : n < B ^ k) : val (fix k n) = n := by rw [val_fix, Nat.mod_eq_of_lt h]
theorem val_inj {a b : List Nat} (ha : Wf a) (hb : Wf b) (hl : a.length = b.length) (h : val a = val b) : a = b := by
 have h1 := fix_val a b.length ha hl
 rw [h] at h1
 exact h1.symm.trans (fix_val b b.length hb rfl)
theorem fix_mod (k n : Nat) : fix k (n % B ^ k) = fix k n := val_inj (wf_fix _ _) (wf_fix _ _) (by rw [length_fix, length_fix]) (by rw [val_fix, val_fix, Nat.mod_mod])
theorem limbs_pad (n k : Nat) : val (limbs n ++ List.replicate k 0) = n := by rw [val_pad, val_limbs]
theorem fix_eq {k n : Nat} (h : len n ≤ k) : fix k n = limbs n ++ List.replicate (k - len n) 0 := by
 refine val_inj (wf_fix _ _) ((wf_limbs n).append (Wf.zeros _)) ?_ ?_
 ·rw [length_fix, List.length_append, List.length_replicate]
  have : (limbs n).length = len n := rfl
  omega
 ·rw [limbs_pad, val_fix_of (len_le_iff.1 h)]
theorem val_split (a : List Nat) {i : Nat} (h : i ≤ a.length) : val a = val (a.take i) + B ^ i * val (a.drop i) := by
 have h1 := val_append (a.take i) (a.drop i)
 rw [List.take_append_drop, List.length_take, Nat.min_eq_left h] at h1
 exact h1
theorem drop_get {a : List Nat} {i x : Nat} (h : a[i]? = some x) : a.drop i = x :: a.drop (i + 1) := by
 obtain ⟨h1, rfl⟩ := List.getElem?_eq_some_iff.1 h
 exact List.drop_eq_getElem_cons h1
theorem take_get {a : List Nat} {i x : Nat} (h : a[i]? = some x) : a.take (i + 1) = a.take i ++ [x] := by
 rw [List.take_add_one, h]; rfl
theorem val_take_succ {a : List Nat} {i x : Nat} (h : a[i]? = some x) : val (a.take (i + 1)) = val (a.take i) + B ^ i * x := by
 have hl : i ≤ a.length := Nat.le_of_lt (List.getElem?_eq_some_iff.1 h).1
 rw [take_get h, val_snoc, List.length_take, Nat.min_eq_left hl]
theorem take_over {a : List Nat} {i : Nat} (h : a[i]? = none) : a.take (i + 1) = a.take i := by
 have := List.getElem?_eq_none_iff.1 h
 rw [List.take_of_length_le (by omega), List.take_of_length_le this]
theorem val_drop {a : List Nat} {i x : Nat} (h : a[i]? = some x) : val (a.drop i) = x + B * val (a.drop (i + 1)) := by rw [drop_get h, val_cons]
theorem val_take_lt {a : List Nat} (h : Wf a) (i : Nat) : val (a.take i) < B ^ i :=
 Nat.lt_of_lt_of_le (val_lt (h.take i)) (Bpow_le (List.length_take_le i a))
theorem val_drop_eq {a : List Nat} (h : Wf a) (i : Nat) : val (a.drop i) = val a / B ^ i := by
 by_cases hi : i ≤ a.length
 ·rw [val_split a hi, Nat.add_mul_div_left _ _ (Bpow_pos i), Nat.div_eq_of_lt (val_take_lt h i), Nat.zero_add]
 ·rw [List.drop_eq_nil_of_le (by omega), val_nil, Nat.div_eq_of_lt (Nat.lt_of_lt_of_le (val_lt h) (Bpow_le (by omega)))]
theorem val_take_eq {a : List Nat} (h : Wf a) (i : Nat) : val (a.take i) = val a % B ^ i := by
 by_cases hi : i ≤ a.length
 ·rw [val_split a hi, Nat.add_mul_mod_self_left, Nat.mod_eq_of_lt (val_take_lt h i)]
 ·rw [List.take_of_length_le (by omega), Nat.mod_eq_of_lt (Nat.lt_of_lt_of_le (val_lt h) (Bpow_le (by omega)))]
theorem take_set (l : List Nat) (i s : Nat) : (l.set i s).take i = l.take i := by
 rw [List.take_set, List.set_eq_of_length_le (by simp; omega)]
theorem val_take_set {l : List Nat} {i : Nat} (h : i < l.length) (s : Nat) : val ((l.set i s).take (i + 1)) = val (l.take i) + B ^ i * s := by
 rw [val_take_succ (a := l.set i s) (x := s) (by simp [h]), take_set]
theorem trim_step {a : List Nat} {n : Nat} (h0 : a[n]? = some 0) : val (a.take (n + 1)) = val (a.take n) := by rw [val_take_succ h0]; simp
theorem trim_done {a : List Nat} {n : Nat} (hw : Wf a) (hv : val (a.take n) = val a) (h0 : n = 0 ∨ ∃ x, a[n - 1]? = some x ∧ x ≠ 0) : a.take n = limbs (val a) := by
 rw [← hv]
 refine (limbs_val ⟨hw.take n, ?_⟩).symm
 rcases h0 with rfl | ⟨x, hx, hx0⟩
 ·simp
 ·intro e
  by_cases hn : n = 0
  ·subst hn; simp at e
  ·have h1 : n - 1 + 1 = n := by omega
   have h2 := take_get hx
   rw [h1] at h2
   rw [h2] at e
   simp at e
   exact hx0 e
def cmpI (m n : Nat) : Int := if m < n then -1 else if m = n then 0 else 1
theorem cmpI_lt {m n : Nat} (h : m < n) : cmpI m n = -1 := by simp [cmpI, h]
theorem cmpI_gt {m n : Nat} (h : n < m) : cmpI m n = 1 := by
 have h1 : ¬ m < n := by omega
 have h2 : m ≠ n := by omega
 simp [cmpI, h1, h2]
theorem cmpI_neg {m n : Nat} : cmpI m n < 0 ↔ m < n := by
 unfold cmpI
 split
 ·simp [*]
 ·split <;> simp [*]
theorem cmpI_eq (m : Nat) : cmpI m m = 0 := by simp [cmpI]
theorem lt_of_first {a b : List Nat} {i x y : Nat} (ha : Wf a) (hd : a.drop (i + 1) = b.drop (i + 1)) (hx : a[i]? = some x) (hy : b[i]? = some y) (h : x < y) : val a < val b := by
 have la : i ≤ a.length := Nat.le_of_lt (List.getElem?_eq_some_iff.1 hx).1
 have lb : i ≤ b.length := Nat.le_of_lt (List.getElem?_eq_some_iff.1 hy).1
 rw [val_split a la, val_split b lb, val_drop hx, val_drop hy, hd]
 have h1 := val_take_lt ha i
 have h2 : B ^ i * (x + B * val (b.drop (i + 1)) + 1) ≤ B ^ i * (y + B * val (b.drop (i + 1))) := Nat.mul_le_mul_left _ (by omega)
 rw [Nat.mul_add, Nat.mul_one] at h2
 omega
end Go.Limbs

/-
 LIMBS, part B: what one round of each loop does to the numbers. No program in sight.
-/
namespace Go.Limbs
def addD (x y c : Nat) : Nat := (x + y + c) % B
def addC (x y c : Nat) : Nat := (x + y + c) / B
theorem addD_lt (x y c : Nat) : addD x y c < B := Nat.mod_lt _ B_pos
theorem add_eq (x y c : Nat) : addD x y c + B * addC x y c = x + y + c := Nat.mod_add_div _ _
theorem add_step {p u v P x y c : Nat} (h : p + P * c = u + v) : p + P * addD x y c + P * B * addC x y c = (u + P * x) + (v + P * y) := by
 have e := add_eq x y c
 generalize addD x y c = m at *
 generalize addC x y c = d at *
 grind
theorem add_carry {x y c : Nat} (hx : x < B) (hy : y < B) (hc : c ≤ 1) : addC x y c ≤ 1 := by
 have : addC x y c < 2 := by unfold addC; rw [Nat.div_lt_iff_lt_mul B_pos]; omega
 omega
def subD (x y c : Nat) : Nat := (x + B - y - c) % B
def subC (x y c : Nat) : Nat := if x < y + c then 1 else 0
theorem subD_lt (x y c : Nat) : subD x y c < B := Nat.mod_lt _ B_pos
theorem subC_le (x y c : Nat) : subC x y c ≤ 1 := by unfold subC; split <;> omega
theorem sub_eq {x y c : Nat} (hx : x < B) (hy : y < B) (hc : c ≤ 1) : subD x y c + (y + c) = x + B * subC x y c := by
 unfold subD subC
 by_cases h : x < y + c
 ·rw [if_pos h, Nat.mod_eq_of_lt (by omega)]; omega
 ·rw [if_neg h, show x + B - y - c = x - y - c + B by omega, Nat.add_mod_right, Nat.mod_eq_of_lt (by omega)]; omega
theorem sub_step {p u v P x y c : Nat} (hx : x < B) (hy : y < B) (hc : c ≤ 1) (h : p + v = u + P * c) :
  p + P * subD x y c + (v + P * y) = (u + P * x) + P * B * subC x y c := by
 have e := sub_eq hx hy hc
 generalize subD x y c = m at *
 generalize subC x y c = d at *
 grind
theorem mac_lt {x k c o : Nat} (hx : x < B) (hk : k < B) (hc : c < B) (ho : o < B) : x * k + c + o < B * B := by
 have h1 : x * k ≤ (B - 1) * (B - 1) := Nat.mul_le_mul (by omega) (by omega)
 have h2 : (B - 1) * (B - 1) + (B - 1) + (B - 1) < B * B := by decide
 omega
theorem mac_high {x k c o : Nat} : x * k / B + (x * k % B + c) / B + (o + (x * k % B + c) % B) / B = (x * k + c + o) / B := by
 have e := Nat.mod_add_div (x * k) B
 have e1 := Nat.mod_add_div (x * k % B + c) B
 have e2 := Nat.mod_add_div (o + (x * k % B + c) % B) B
 have h : x * k + c + o = (o + (x * k % B + c) % B) % B + B * (x * k / B + (x * k % B + c) / B + (o + (x * k % B + c) % B) / B) := by
  generalize x * k / B = a at *
  generalize (x * k % B + c) / B = b at *
  generalize (o + (x * k % B + c) % B) / B = d at *
  rw [Nat.mul_add, Nat.mul_add]
  omega
 rw [h, Nat.add_mul_div_left _ _ B_pos, Nat.div_eq_of_lt (Nat.mod_lt _ B_pos), Nat.zero_add]
theorem mac_low {x k c o : Nat} : (o + (x * k % B + c) % B) % B = (x * k + c + o) % B := by
 rw [Nat.add_mod_mod, Nat.add_comm o, Nat.add_assoc, Nat.mod_add_mod, Nat.add_assoc]
theorem mac_div_lt {x k c o : Nat} (hx : x < B) (hk : k < B) (hc : c < B) (ho : o < B) : (x * k + c + o) / B < B := by
 rw [Nat.div_lt_iff_lt_mul B_pos]; exact mac_lt hx hk hc ho
theorem mac_step {p s v P x k c o : Nat} (h : p + P * c = s + v * k) : p + P * ((x * k + c + o) % B) + P * B * ((x * k + c + o) / B) = (s + P * o) + (v + P * x) * k := by
 have e := Nat.mod_add_div (x * k + c + o) B
 generalize (x * k + c + o) % B = m at *
 generalize (x * k + c + o) / B = d at *
 grind
theorem less_high {y k c : Nat} : y * k / B + (y * k % B + c) / B = (y * k + c) / B := by
 have := @mac_high y k c 0
 rw [Nat.zero_add, Nat.add_zero, Nat.div_eq_of_lt (Nat.mod_lt _ B_pos), Nat.add_zero] at this
 exact this
theorem less_low {y k c : Nat} : (y * k % B + c) % B = (y * k + c) % B := Nat.mod_add_mod _ _ _
theorem less_step {p x b P y k c w o : Nat} (ho : o < B) (hw : w ≤ 1) (h : p + b * k = x + P * (c + w)) :
  p + P * subD o ((y * k + c) % B) w + (b + P * y) * k = (x + P * o) + P * B * ((y * k + c) / B + subC o ((y * k + c) % B) w) := by
 have e := Nat.mod_add_div (y * k + c) B
 have e2 := sub_eq ho (Nat.mod_lt (y * k + c) B_pos) hw
 generalize (y * k + c) % B = m at *
 generalize (y * k + c) / B = d at *
 generalize subD o m w = sd at *
 generalize subC o m w = sc at *
 grind
theorem pow64 : (2 : Nat) ^ 64 = B := by decide
theorem two_split {s : Nat} (h : s ≤ 64) : 2 ^ s * 2 ^ (64 - s) = B := by rw [← Nat.pow_add, show s + (64 - s) = 64 by omega, pow64]
theorem B_pow (w : Nat) : B ^ w = 2 ^ (64 * w) := by rw [← pow64, ← Nat.pow_mul]
theorem shl_low {x s : Nat} (h : s ≤ 64) : x * 2 ^ s % B = x % 2 ^ (64 - s) * 2 ^ s := by
 rw [← two_split h, Nat.mul_comm (2 ^ s) (2 ^ (64 - s)), Nat.mul_mod_mul_right]
theorem shl_high {x s : Nat} (h : s ≤ 64) : x * 2 ^ s / B = x / 2 ^ (64 - s) := by
 rw [← two_split h, Nat.mul_comm (2 ^ s) (2 ^ (64 - s)), Nat.mul_div_mul_right _ _ (Nat.two_pow_pos s)]
theorem shl_high_lt {x s : Nat} (hx : x < B) : x * 2 ^ s / B < 2 ^ s := by
 rw [Nat.div_lt_iff_lt_mul B_pos, Nat.mul_comm]; exact Nat.mul_lt_mul_of_pos_left hx (Nat.two_pow_pos s)
theorem or_low {h y s : Nat} (hh : h < 2 ^ s) : h ||| y * 2 ^ s = h + y * 2 ^ s := by
 rw [Nat.or_comm, Nat.add_comm, ← Nat.shiftLeft_eq, Nat.shiftLeft_add_eq_or_of_lt hh]
theorem or_shl {h x s : Nat} (hs : s ≤ 64) (hh : h < 2 ^ s) : h ||| x * 2 ^ s % B = h + x * 2 ^ s % B := by rw [shl_low hs, or_low hh]
theorem shl_sum_lt {h x s : Nat} (hs : s ≤ 64) (hh : h < 2 ^ s) : h + x * 2 ^ s % B < B := by
 rw [shl_low hs]
 have h1 : (x % 2 ^ (64 - s) + 1) * 2 ^ s ≤ 2 ^ (64 - s) * 2 ^ s := Nat.mul_le_mul_right _ (Nat.mod_lt _ (Nat.two_pow_pos _))
 rw [Nat.mul_comm (2 ^ (64 - s)), two_split hs, Nat.add_mul, Nat.one_mul] at h1
 omega
theorem shl_step {p u P Q x s h N : Nat} (e : p + P * h = u * N) (hP : P * 2 ^ s = N * Q) :
  p + P * (h + x * 2 ^ s % B) + P * B * (x * 2 ^ s / B) = (u + Q * x) * N := by
 have e1 := Nat.mod_add_div (x * 2 ^ s) B
 generalize x * 2 ^ s % B = m at *
 generalize x * 2 ^ s / B = d at *
 grind
theorem shr_limb {x y z s : Nat} (hs : s ≤ 64) (hx : x < B) : (x + B * (y + B * z)) / 2 ^ s % B = x / 2 ^ s + y * 2 ^ (64 - s) % B := by
 have h1 := two_split hs
 have h2 : B * (y + B * z) = 2 ^ s * (2 ^ (64 - s) * (y + B * z)) := by rw [← Nat.mul_assoc, h1]
 rw [h2, Nat.add_mul_div_left _ _ (Nat.two_pow_pos s), Nat.mul_add, ← Nat.add_assoc, ← Nat.mul_assoc, Nat.mul_comm (2 ^ (64 - s)) B, Nat.mul_assoc, Nat.add_mul_mod_self_left, Nat.mul_comm _ y]
 have h3 : x / 2 ^ s < 2 ^ (64 - s) := by rw [Nat.div_lt_iff_lt_mul (Nat.two_pow_pos s), Nat.mul_comm, h1]; exact hx
 have h4 := @shl_low y (64 - s) (by omega)
 have h5 : x / 2 ^ s + y * 2 ^ (64 - s) % B < B := shl_sum_lt (by omega) h3
 rw [Nat.add_mod, Nat.mod_eq_of_lt (show x / 2 ^ s < B by omega), Nat.mod_eq_of_lt h5]
theorem shr_or {x y s : Nat} (hs : s ≤ 64) (hx : x < B) : x / 2 ^ s ||| y * 2 ^ (64 - s) % B = x / 2 ^ s + y * 2 ^ (64 - s) % B := by
 have h1 := two_split hs
 exact or_shl (by omega) (by rw [Nat.div_lt_iff_lt_mul (Nat.two_pow_pos s), Nat.mul_comm, h1]; exact hx)
theorem mod_step {v i l : Nat} (h : v / B ^ i % B = l) : v % B ^ (i + 1) = v % B ^ i + B ^ i * l := by
 rw [Nat.pow_succ, Nat.mod_mul, h]
theorem div_step {a q r x k : Nat} (h : a = k * q + r) : x + B * a = k * ((r * B + x) / k + B * q) + (r * B + x) % k := by
 have e := Nat.mod_add_div (r * B + x) k
 generalize (r * B + x) / k = m at *
 generalize (r * B + x) % k = d at *
 grind
theorem div_lt {r x k : Nat} (hr : r < k) (hx : x < B) : (r * B + x) / k < B := by
 rw [Nat.div_lt_iff_lt_mul (by omega)]
 have : (r + 1) * B ≤ k * B := Nat.mul_le_mul_right _ hr
 rw [Nat.add_mul, Nat.one_mul, Nat.mul_comm k] at this
 omega
theorem div_done {a q r k : Nat} (h : a = k * q + r) (hr : r < k) : q = a / k ∧ r = a % k := by
 subst h
 rw [Nat.mul_add_div (by omega), Nat.div_eq_of_lt hr, Nat.mul_add_mod, Nat.mod_eq_of_lt hr]
 exact ⟨by omega, rfl⟩
end Go.Limbs

/-
 LIMBS, part C: the digits of a quotient. No program in sight.
-/
namespace Go.Limbs
def guessL (d1 d2 next : Nat) : Nat → Nat → Nat
 | 0, _ => 0
 | q + 1, r => if (q + 1) * d2 ≤ r * B + next then q + 1 else if B ≤ r + d1 then q else guessL d1 d2 next q (r + d1)
def guessN (high low next d1 d2 : Nat) : Nat :=
 if d1 ≤ high then B - 1 else guessL d1 d2 next ((high * B + low) / d1) ((high * B + low) % d1)
theorem guessL_le (d1 d2 next : Nat) : ∀ (q r : Nat), guessL d1 d2 next q r ≤ q
 | 0, _ => by simp [guessL]
 | q + 1, r => by
  unfold guessL
  have := guessL_le d1 d2 next q (r + d1)
  split
  ·omega
  ·split <;> omega
theorem guessN_lt {high low next d1 d2 : Nat} (hl : low < B) : guessN high low next d1 d2 < B := by
 unfold guessN
 have hB := B_pos
 split
 ·omega
 ·rename_i h
  exact Nat.lt_of_le_of_lt (guessL_le _ _ _ _ _) (div_lt (by omega) hl)
theorem guessL_ge {d1 d2 next T Q : Nat} (H : ∀ q, T < q * (d1 * B + d2) → Q < q) (q : Nat) : ∀ r, T = (q * d1 + r) * B + next → Q ≤ q → Q ≤ guessL d1 d2 next q r := by
 induction q with
 | zero => intro r _ h; rw [guessL]; exact h
 | succ q ih =>
  intro r hT h
  rw [guessL]
  split
  ·exact h
  ·rename_i h1
   have h2 : Q < q + 1 := by
    refine H _ ?_
    have e : (q + 1) * (d1 * B + d2) = (q + 1) * d1 * B + (q + 1) * d2 := by rw [Nat.mul_add, Nat.mul_assoc]
    rw [hT, e, Nat.add_mul]
    omega
   split
   ·omega
   ·refine ih (r + d1) ?_ (by omega)
    rw [hT]
    have e : (q + 1) * d1 + r = q * d1 + (r + d1) := by rw [Nat.add_mul, Nat.one_mul]; omega
    rw [e]
theorem guessN_ge {high low next d1 d2 Q : Nat} (hQ : Q < B) (H : ∀ q, (high * B + low) * B + next < q * (d1 * B + d2) → Q < q) (hn : next < B) : Q ≤ guessN high low next d1 d2 := by
 unfold guessN
 split
 ·omega
 ·rename_i h
  have hd : 0 < d1 := by omega
  refine guessL_ge H _ _ ?_ ?_
  ·rw [Nat.mul_comm _ d1, Nat.div_add_mod]
  ·by_cases hc : Q ≤ (high * B + low) / d1
   ·exact hc
   ·exfalso
    have h1 := H ((high * B + low) / d1 + 1) ?_
    ·omega
    ·have e := Nat.div_add_mod (high * B + low) d1
     have e2 := Nat.mod_lt (high * B + low) hd
     generalize (high * B + low) / d1 = m at *
     generalize (high * B + low) % d1 = u at *
     generalize high * B + low = t at *
     have h2 : t + 1 ≤ d1 * (m + 1) := by rw [Nat.mul_add]; omega
     have h3 := Nat.mul_le_mul_right B h2
     have h4 : (t + 1) * B = t * B + B := by rw [Nat.add_mul, Nat.one_mul]
     have h5 : (m + 1) * (d1 * B + d2) = d1 * (m + 1) * B + (m + 1) * d2 := by rw [Nat.mul_add, ← Nat.mul_assoc, Nat.mul_comm (m + 1) d1]
     omega
theorem guess_quot {X b n high low next d1 d2 : Nat} (hb : 0 < b) (hX : X / b < B) (hx : X / B ^ n = (high * B + low) * B + next) (hbd : b / B ^ n = d1 * B + d2) (hn : next < B) :
  X / b ≤ guessN high low next d1 d2 := by
 refine guessN_ge hX (fun q hq => ?_) hn
 rw [← hx, ← hbd] at hq
 rw [Nat.div_lt_iff_lt_mul hb]
 have h1 : X < (X / B ^ n + 1) * B ^ n := by
  have := Nat.lt_div_mul_add (a := X) (b := B ^ n) (Bpow_pos n)
  rw [Nat.add_mul, Nat.one_mul]; exact this
 have h2 : (X / B ^ n + 1) * B ^ n ≤ q * (b / B ^ n) * B ^ n := Nat.mul_le_mul_right _ hq
 have h3 : q * (b / B ^ n) * B ^ n ≤ q * b := by
  rw [Nat.mul_assoc]
  exact Nat.mul_le_mul_left _ (Nat.div_mul_le_self b (B ^ n))
 omega
theorem more_over {Y b n k X : Nat} (hb : b < B ^ n) (hX : X < k * b) (hk : k * b ≤ B ^ (n + 1)) (hY : Y = X + B ^ (n + 1) - k * b) :
  (X < (k - 1) * b → (Y + b) % B ^ (n + 1) = X + B ^ (n + 1) - (k - 1) * b ∧ Y / B ^ n ≤ (Y + b) % B ^ (n + 1) / B ^ n) ∧
  (¬ X < (k - 1) * b → (Y + b) % B ^ (n + 1) = X - (k - 1) * b ∧ ¬ Y / B ^ n ≤ (Y + b) % B ^ (n + 1) / B ^ n) := by
 have hk1 : 1 ≤ k := by
  rcases Nat.eq_zero_or_pos k with h | h
  ·subst h; simp at hX
  ·exact h
 have e : k * b = (k - 1) * b + b := by
  have : k = (k - 1) + 1 := by omega
  rw [this, Nat.add_mul, Nat.one_mul]; simp
 have hp : B ^ (n + 1) = B ^ n * B := Nat.pow_succ ..
 have hpos := Bpow_pos n
 have hB := B_one
 have hbig : B ^ n * 2 ≤ B ^ (n + 1) := by rw [hp]; exact Nat.mul_le_mul_left _ hB
 clear hp
 generalize hm : (k - 1) * b = m at *
 generalize hM : B ^ (n + 1) = M at *
 constructor
 ·intro h
  have h1 : Y + b = X + M - m := by omega
  have h2 : Y + b < M := by omega
  rw [Nat.mod_eq_of_lt h2]
  exact ⟨h1, Nat.div_le_div_right (by omega)⟩
 ·intro h
  have h1 : Y + b = (X - m) + M := by omega
  have h3 : X - m < b := by omega
  rw [h1, Nat.add_mod_right, Nat.mod_eq_of_lt (by omega)]
  refine ⟨rfl, ?_⟩
  rw [Nat.div_eq_of_lt (show X - m < B ^ n by omega)]
  have h4 : 1 ≤ Y / B ^ n := by
   rw [Nat.le_div_iff_mul_le hpos]; omega
  omega
theorem long_step {A R b P q : Nat} (hb : 0 < b) (hP : 0 < P) (h : A = R + b * (P * B) * q) :
  A = (R / P % b * P + R % P) + b * P * (R / P / b + B * q) ∧ R / P % b * P + R % P < b * P := by
 have e1 := Nat.div_add_mod R P
 have e2 := Nat.div_add_mod (R / P) b
 have h1 := Nat.mod_lt (R / P) hb
 have h2 := Nat.mod_lt R hP
 constructor
 ·generalize R / P / b = d at *
  generalize R / P % b = m at *
  generalize R / P = t at *
  generalize R % P = u at *
  grind
 ·have h3 : (R / P % b + 1) * P ≤ b * P := Nat.mul_le_mul_right _ h1
  rw [Nat.add_mul, Nat.one_mul] at h3
  omega
theorem long_lt {R b P : Nat} (h : R < b * (P * B)) (hb : 0 < b) (hP : 0 < P) : R / P / b < B := by
 rw [Nat.div_lt_iff_lt_mul hb, Nat.div_lt_iff_lt_mul hP]
 have : b * (P * B) = B * b * P := by grind
 omega
theorem shift_div (a b s : Nat) : a * 2 ^ s / (b * 2 ^ s) = a / b := Nat.mul_div_mul_right _ _ (Nat.two_pow_pos s)
theorem shift_mod (a b s : Nat) : a * 2 ^ s % (b * 2 ^ s) / 2 ^ s = a % b := by
 rw [Nat.mul_mod_mul_right, Nat.mul_div_cancel _ (Nat.two_pow_pos s)]
theorem bin_step {A r b P q : Nat} (h : A = r + b * (P * 2) * q) (hr : r < b * (P * 2)) :
  (b * P ≤ r → A = (r - b * P) + b * P * (1 + 2 * q) ∧ r - b * P < b * P) ∧ (¬ b * P ≤ r → A = r + b * P * (2 * q) ∧ r < b * P) := by
 have e : b * (P * 2) = b * P * 2 := by grind
 rw [e] at h hr
 generalize b * P = m at *
 constructor
 ·intro h1
  constructor
  ·have h2 : m * (1 + 2 * q) = m + m * 2 * q := by grind
   omega
  ·omega
 ·intro h1
  constructor
  ·have h2 : m * (2 * q) = m * 2 * q := by grind
   omega
  ·omega
def size (n : Nat) : Nat := if n = 0 then 0 else n.log2 + 1
theorem lt_size (n : Nat) : n < 2 ^ size n := by
 unfold size
 split
 ·omega
 ·exact Nat.lt_log2_self
theorem size_le {n : Nat} (h : n ≠ 0) : 2 ^ (size n - 1) ≤ n := by
 unfold size
 rw [if_neg h]
 exact Nat.log2_self_le h
theorem size_zero : size 0 = 0 := rfl
theorem size_pos {n : Nat} (h : n ≠ 0) : 0 < size n := by unfold size; rw [if_neg h]; omega
theorem size_le_iff {n k : Nat} : size n ≤ k ↔ n < 2 ^ k := by
 constructor
 ·intro h
  exact Nat.lt_of_lt_of_le (lt_size n) (Nat.pow_le_pow_right (by omega) h)
 ·intro h
  by_cases hn : n = 0
  ·subst hn; simp [size_zero]
  ·have h1 := size_le hn
   have h2 : 2 ^ (size n - 1) < 2 ^ k := by omega
   have h3 := (Nat.pow_lt_pow_iff_right (by omega : 1 < 2)).1 h2
   omega
theorem size_eq {n k : Nat} (h1 : 2 ^ k ≤ n) (h2 : n < 2 ^ (k + 1)) : size n = k + 1 := by
 have h3 := size_le_iff.2 h2
 have h4 : ¬ size n ≤ k := fun h => by have := size_le_iff.1 h; omega
 omega
theorem size_shift {n : Nat} (h : n ≠ 0) (k : Nat) : size (n * 2 ^ k) = size n + k := by
 have h1 := size_le h
 have h2 := lt_size n
 have h3 := size_pos h
 have e : size n + k = (size n - 1 + k) + 1 := by omega
 rw [e]
 refine size_eq ?_ ?_
 ·rw [Nat.pow_add]; exact Nat.mul_le_mul_right _ h1
 ·rw [show size n - 1 + k + 1 = size n + k by omega, Nat.pow_add]
  exact Nat.mul_lt_mul_of_pos_right h2 (Nat.two_pow_pos k)
theorem size_mono {m n : Nat} (h : m ≤ n) : size m ≤ size n := size_le_iff.2 (Nat.lt_of_le_of_lt h (lt_size n))
theorem size_limbs {pre : List Nat} {x : Nat} (hp : Wf pre) (hx : x ≠ 0) : size (val (pre ++ [x])) = 64 * pre.length + size x := by
 have h1 := val_lt hp
 rw [val_snoc, B_pow] at *
 have h2 := size_le hx
 have h3 := lt_size x
 have h4 := size_pos hx
 rw [show 64 * pre.length + size x = (64 * pre.length + (size x - 1)) + 1 by omega]
 refine size_eq ?_ ?_
 ·rw [Nat.pow_add]
  have := Nat.mul_le_mul_left (2 ^ (64 * pre.length)) h2
  omega
 ·rw [show 64 * pre.length + (size x - 1) + 1 = 64 * pre.length + size x by omega, Nat.pow_add]
  have := Nat.mul_le_mul_left (2 ^ (64 * pre.length)) (show x + 1 ≤ 2 ^ size x from h3)
  rw [Nat.mul_add, Nat.mul_one] at this
  omega
end Go.Limbs

/-
 The numeral of a number, out of its chunks of nineteen digits.
-/
namespace Go.Limbs
open Go.Lib
end Go.Limbs

/-
 LIMBS, part D: rows of limbs as pure values; the carry of Go's bits.
-/
namespace Go.Abs
open Go.Limbs
def u64 (n : Nat) : PVal := .int .u64 n
def lstP (l : List Nat) : PVal := .lst (l.map u64)
def numP (n : Nat) : PVal := lstP (limbs n)
def decU : List PVal → Option (List Nat)
 | [] => some []
 | .int .u64 z :: r => if 0 ≤ z ∧ z.toNat < B then (match decU r with | some l => some (z.toNat :: l) | none => none) else none
 | _ :: _ => none
theorem decU_map : ∀ {l : List Nat}, Wf l → decU (l.map u64) = some l
 | [], _ => rfl
 | x :: r, h => by
  have hx := h.head
  have : (0 : Int) ≤ (x : Int) ∧ (x : Int).toNat < B := by simpa using hx
  simp only [List.map_cons, u64, decU, if_pos this]
  rw [decU_map h.tail]
  simp
theorem decU_some : ∀ {es : List PVal} {l : List Nat}, decU es = some l → es = l.map u64 ∧ Wf l
 | [], l, h => by simp [decU] at h; subst h; exact ⟨rfl, Wf.nil⟩
 | x :: r, l, h => by
  unfold decU at h
  split at h
  ·rename_i e; cases e
  ·rename_i z r' e
   cases e
   split at h
   ·rename_i hz
    cases hd : decU r with
    | none => rw [hd] at h; cases h
    | some l' =>
     rw [hd] at h
     cases h
     obtain ⟨h1, h2⟩ := decU_some hd
     obtain ⟨m, rfl⟩ := Int.eq_ofNat_of_zero_le hz.1
     exact ⟨by rw [h1]; simp [u64], Wf.cons hz.2 h2⟩
   ·cases h
  ·cases h
def decN (es : List PVal) : Option Nat := match decU es with
 | some l => if limbs (val l) = l ∧ l.length ≤ 100000 then some (val l) else none
 | none => none
theorem decN_num {n : Nat} (h : len n ≤ 100000) : decN ((limbs n).map u64) = some n := by
 unfold decN
 rw [decU_map (wf_limbs n)]
 have : limbs (val (limbs n)) = limbs n ∧ (limbs n).length ≤ 100000 := ⟨by rw [val_limbs], h⟩
 show (if limbs (val (limbs n)) = limbs n ∧ (limbs n).length ≤ 100000 then some (val (limbs n)) else none) = some n
 rw [if_pos this, val_limbs]
theorem decN_some {es : List PVal} {n : Nat} (h : decN es = some n) : es = (limbs n).map u64 ∧ len n ≤ 100000 := by
 unfold decN at h
 split at h
 ·rename_i l hl
  split at h
  ·rename_i h2
   cases h
   obtain ⟨h3, _⟩ := decU_some hl
   exact ⟨by rw [h2.1]; exact h3, by unfold len; rw [h2.1]; exact h2.2⟩
  ·cases h
 ·cases h
theorem B_lit : B = 18446744073709551616 := rfl
theorem wrap_u {n : Nat} (h : n < B) : IntKind.u64.wrap (n : Int) = n := by rw [B_lit] at h; exact IntWalk.u64_in _ (by omega)
theorem wrap_um (n : Nat) : IntKind.u64.wrap (n : Int) = ((n % B : Nat) : Int) := by rw [B_lit, IntKind.wrap_u64]; omega
theorem wrap_u_add {a b : Nat} (h : a + b < B) : IntKind.u64.wrap ((a : Int) + b) = ((a + b : Nat) : Int) := by rw [← Int.natCast_add]; exact wrap_u h
theorem wrap_u_mod (a b : Nat) : IntKind.u64.wrap ((a : Int) + b) = (((a + b) % B : Nat) : Int) := by rw [← Int.natCast_add]; exact wrap_um _
theorem wrap_u_mul (a b : Nat) : IntKind.u64.wrap ((a : Int) * b) = (((a * b) % B : Nat) : Int) := by rw [← Int.natCast_mul]; exact wrap_um _
theorem wrap_i {n : Nat} (h : n < 9223372036854775808) : IntKind.i64.wrap (n : Int) = n := IntWalk.i64_in _ (by omega)
theorem bv_ofInt (a : Nat) : BitVec.ofInt 64 (a : Int) = BitVec.ofNat 64 a := BitVec.ofInt_natCast 64 a
theorem or_word {a b : Nat} (ha : a < B) (hb : b < B) : (BitVec.ofInt 64 (a : Int) ||| BitVec.ofInt 64 (b : Int)).toNat = a ||| b := by
 rw [bv_ofInt, bv_ofInt, BitVec.toNat_or, BitVec.toNat_ofNat, BitVec.toNat_ofNat, pow64, Nat.mod_eq_of_lt ha, Nat.mod_eq_of_lt hb]
theorem and_word {a b : Nat} (ha : a < B) (hb : b < B) : (BitVec.ofInt 64 (a : Int) &&& BitVec.ofInt 64 (b : Int)).toNat = a &&& b := by
 rw [bv_ofInt, bv_ofInt, BitVec.toNat_and, BitVec.toNat_ofNat, BitVec.toNat_ofNat, pow64, Nat.mod_eq_of_lt ha, Nat.mod_eq_of_lt hb]
theorem or_lt {a b : Nat} (ha : a < B) (hb : b < B) : a ||| b < B := by rw [← pow64] at *; exact Nat.or_lt_two_pow ha hb
theorem or_wrap {a b : Nat} (ha : a < B) (hb : b < B) : IntKind.u64.wrap ((BitVec.ofInt 64 (a : Int) ||| BitVec.ofInt 64 (b : Int)).toNat : Int) = ((a ||| b : Nat) : Int) := by
 rw [or_word ha hb]; exact wrap_u (or_lt ha hb)
theorem and_wrap {a b : Nat} (ha : a < B) (hb : b < B) : IntKind.u64.wrap ((BitVec.ofInt 64 (a : Int) &&& BitVec.ofInt 64 (b : Int)).toNat : Int) = ((a &&& b : Nat) : Int) := by
 rw [and_word ha hb]; exact wrap_u (Nat.lt_of_le_of_lt Nat.and_le_left ha)
theorem fdiv_pow (a s : Nat) : (a : Int).fdiv (2 ^ s) = ((a / 2 ^ s : Nat) : Int) := by
 rw [Int.fdiv_eq_ediv_of_nonneg _ (Int.le_of_lt (Int.pow_pos (by omega)))]
 simp
def sAdd64 : List PVal → Option PVal
 | [.int .u64 x, .int .u64 y, .int .u64 c] => if 0 ≤ x ∧ 0 ≤ y ∧ 0 ≤ c ∧ c ≤ 1 then some (.tup [u64 (addD x.toNat y.toNat c.toNat), u64 (addC x.toNat y.toNat c.toNat)]) else none
 | _ => none
def sSub64 : List PVal → Option PVal
 | [.int .u64 x, .int .u64 y, .int .u64 c] => if 0 ≤ x ∧ 0 ≤ y ∧ 0 ≤ c ∧ c ≤ 1 then some (.tup [u64 (subD x.toNat y.toNat c.toNat), u64 (subC x.toNat y.toNat c.toNat)]) else none
 | _ => none
theorem sAdd64_nat {x y c : Nat} (h : c ≤ 1) : sAdd64 [.int .u64 x, .int .u64 y, .int .u64 c] = some (.tup [.int .u64 (addD x y c : Nat), .int .u64 (addC x y c : Nat)]) := by
 have : (0 : Int) ≤ x ∧ (0 : Int) ≤ y ∧ (0 : Int) ≤ c ∧ (c : Int) ≤ 1 := by omega
 simp only [sAdd64, if_pos this, Int.toNat_natCast, u64]
theorem sAdd64_zero {x y : Nat} : sAdd64 [.int .u64 x, .int .u64 y, .int .u64 0] = some (.tup [.int .u64 (addD x y 0 : Nat), .int .u64 (addC x y 0 : Nat)]) := sAdd64_nat (x := x) (y := y) (c := 0) (by omega)
theorem sSub64_nat {x y c : Nat} (h : c ≤ 1) : sSub64 [.int .u64 x, .int .u64 y, .int .u64 c] = some (.tup [.int .u64 (subD x y c : Nat), .int .u64 (subC x y c : Nat)]) := by
 have : (0 : Int) ≤ x ∧ (0 : Int) ≤ y ∧ (0 : Int) ≤ c ∧ (c : Int) ≤ 1 := by omega
 simp only [sSub64, if_pos this, Int.toNat_natCast, u64]
variable {P : Program} {base : Prot}
theorem add64_ext {f : FuncId} {fn : Func} (hf : P.funcs[f]? = some fn) (h1 : (fn.name == "runtime.NumGoroutine") = false) (h2 : fn.body.isNone = true) (h3 : (Extern.findNext fn).isNone = true)
  (h4 : Extern.find fn = some add64Entry) : ∀ ps x, sAdd64 ps = some x → ExtOk P f ps x := by
 intro ps x h
 unfold sAdd64 at h
 split at h
 case h_2 => cases h
 rename_i x y c
 split at h
 case isFalse => cases h
 rename_i hc
 cases h
 refine ⟨fn, _, hf, h1, h2, h3, h4, fun pr w vs hl hr => ?_⟩
 match vs, hl with
 | [a, b, d], _ =>
  have ha := hr 0 _ a rfl rfl
  have hb := hr 1 _ b rfl rfl
  have hd := hr 2 _ d rfl rfl
  cases ha
  cases hb
  cases hd
  refine ⟨_, run_add64 x y c hc.1 hc.2.1 hc.2.2.1 hc.2.2.2 w, .tup _ [_, _] rfl fun j z v h1 h2 => ?_⟩
  obtain ⟨X, rfl⟩ := Int.eq_ofNat_of_zero_le hc.1
  obtain ⟨Y, rfl⟩ := Int.eq_ofNat_of_zero_le hc.2.1
  obtain ⟨C, rfl⟩ := Int.eq_ofNat_of_zero_le hc.2.2.1
  simp only [Int.toNat_natCast] at h1
  have e1 : (addD X Y C : Int) = ((X : Int) + Y + C) % 18446744073709551616 := by unfold addD; rw [B_lit]; omega
  have e2 : (addC X Y C : Int) = ((X : Int) + Y + C) / 18446744073709551616 := by unfold addC; rw [B_lit]; omega
  match j, h1, h2 with
  | 0, h1, h2 => simp at h1 h2; subst h1 h2; unfold u64; rw [e1]; exact .int _ _
  | 1, h1, h2 => simp at h1 h2; subst h1 h2; unfold u64; rw [e2]; exact .int _ _
def sub64Entry : Array Value → Sem Value := fun args => do
 let (x, y, b) ← Extern.MathBitsCarry.three "Sub64" args
 pure (Extern.MathBitsCarry.pair ((x + Extern.MathBitsCarry.m64 - y - b) % Extern.MathBitsCarry.m64) (if x < y + b then 1 else 0))
theorem run_sub64 (x y c : Nat) (hc : c ≤ 1) (w : World) :
  (sub64Entry #[.int .u64 x, .int .u64 y, .int .u64 c]).run P w = .ok (.tuple #[.int .u64 (subD x y c : Nat), .int .u64 (subC x y c : Nat)]) w := by
 have : c = 0 ∨ c = 1 := by omega
 rcases this with rfl | rfl <;> rfl
theorem sub64_ext {f : FuncId} {fn : Func} (hf : P.funcs[f]? = some fn) (h1 : (fn.name == "runtime.NumGoroutine") = false) (h2 : fn.body.isNone = true) (h3 : (Extern.findNext fn).isNone = true)
  (h4 : Extern.find fn = some sub64Entry) : ∀ ps x, sSub64 ps = some x → ExtOk P f ps x := by
 intro ps x h
 unfold sSub64 at h
 split at h
 case h_2 => cases h
 rename_i x y c
 split at h
 case isFalse => cases h
 rename_i hc
 cases h
 refine ⟨fn, _, hf, h1, h2, h3, h4, fun pr w vs hl hr => ?_⟩
 match vs, hl with
 | [a, b, d], _ =>
  have ha := hr 0 _ a rfl rfl
  have hb := hr 1 _ b rfl rfl
  have hd := hr 2 _ d rfl rfl
  cases ha
  cases hb
  cases hd
  obtain ⟨X, rfl⟩ := Int.eq_ofNat_of_zero_le hc.1
  obtain ⟨Y, rfl⟩ := Int.eq_ofNat_of_zero_le hc.2.1
  obtain ⟨C, rfl⟩ := Int.eq_ofNat_of_zero_le hc.2.2.1
  refine ⟨_, run_sub64 X Y C (by omega) w, .tup _ [_, _] rfl fun j z v h1 h2 => ?_⟩
  simp only [Int.toNat_natCast] at h1
  match j, h1, h2 with
  | 0, h1, h2 => simp at h1 h2; subst h1 h2; exact .int _ _
  | 1, h1, h2 => simp at h1 h2; subst h1 h2; exact .int _ _
end Go.Abs

/-
 The lowered code of the functions, as the program's form has it.
-/
namespace Go.Proofs.YtgbjjikaenlkmaaGreat
open Go Go.Abs
def gl0 : Nat → AVal := fun _ => .junk
def lf135 : LFunc := ⟨20,[.slot 4],.seq (.region [Oa 4 (.mov (Kz 0))]) (.seq (.region [Om 7 0,Oa 8 (.call 149 [Tm 7]),Om 5 8]) (.seq (.region [Om 9 1,Oa 10 (.call 149 [Tm 9]),Om 6 10]) (.seq (.seq (.region [Om 11 5]) (.cond (Tm 11) (.seq (.seq (.region [Om 12 6]) (.cond (Tm 12) (.seq (.region [Oa 4 (.mov (Kz 0))]) (.ret)) (.skip))) (.seq (.region [Oa 4 (.mov (Kz (-1)))]) (.ret))) (.skip))) (.seq (.seq (.region [Om 13 6]) (.cond (Tm 13) (.seq (.region [Oa 4 (.mov (Kz 1))]) (.ret)) (.skip))) (.seq (.seq (.region [Om 14 0,Om 15 1,Oa 16 (.bin .lss (Tm 14) (Tm 15))]) (.cond (Tm 16) (.seq (.region [Oa 4 (.mov (Kz (-1)))]) (.ret)) (.skip))) (.seq (.seq (.region [Om 17 0,Om 18 1,Oa 19 (.bin .gtr (Tm 17) (Tm 18))]) (.cond (Tm 19) (.seq (.region [Oa 4 (.mov (Kz 1))]) (.ret)) (.skip))) (.seq (.region [Oa 4 (.mov (Kz 0))]) (.ret))))))))⟩
theorem low135 : lowFunc Tryz.prog gl0 135 = some lf135 := Go.Abs.lowF (by kernel_rfl)
def lf136 : LFunc := ⟨20,[.slot 4],.seq (.region [Oa 4 (.mov (Kz 0))]) (.seq (.region [Om 7 0,Oa 8 (.call 150 [Tm 7]),Om 5 8]) (.seq (.region [Om 9 1,Oa 10 (.call 150 [Tm 9]),Om 6 10]) (.seq (.seq (.region [Om 11 5]) (.cond (Tm 11) (.seq (.seq (.region [Om 12 6]) (.cond (Tm 12) (.seq (.region [Oa 4 (.mov (Kz 0))]) (.ret)) (.skip))) (.seq (.region [Oa 4 (.mov (Kz (-1)))]) (.ret))) (.skip))) (.seq (.seq (.region [Om 13 6]) (.cond (Tm 13) (.seq (.region [Oa 4 (.mov (Kz 1))]) (.ret)) (.skip))) (.seq (.seq (.region [Om 14 0,Om 15 1,Oa 16 (.bin .lss (Tm 14) (Tm 15))]) (.cond (Tm 16) (.seq (.region [Oa 4 (.mov (Kz (-1)))]) (.ret)) (.skip))) (.seq (.seq (.region [Om 17 0,Om 18 1,Oa 19 (.bin .gtr (Tm 17) (Tm 18))]) (.cond (Tm 19) (.seq (.region [Oa 4 (.mov (Kz 1))]) (.ret)) (.skip))) (.seq (.region [Oa 4 (.mov (Kz 0))]) (.ret))))))))⟩
theorem low136 : lowFunc Tryz.prog gl0 136 = some lf136 := Go.Abs.lowF (by kernel_rfl)
def lf149 : LFunc := ⟨6,[.slot 2],.seq (.region [Oa 2 (.mov Kg)]) (.seq (.region [Om 3 0,Om 4 0,Oa 5 (.bin .neq (Tm 3) (Tm 4)),Om 2 5]) (.ret))⟩
theorem low149 : lowFunc Tryz.prog gl0 149 = some lf149 := Go.Abs.lowF (by kernel_rfl)
def lf150 : LFunc := ⟨6,[.slot 2],.seq (.region [Oa 2 (.mov Kg)]) (.seq (.region [Om 3 0,Om 4 0,Oa 5 (.bin .neq (Tm 3) (Tm 4)),Om 2 5]) (.ret))⟩
theorem low150 : lowFunc Tryz.prog gl0 150 = some lf150 := Go.Abs.lowF (by kernel_rfl)
def lf160_B0 : LCode := .block 0 (.loop (.seq (.seq (.region [Om 67 15,Oa 68 (.bin .geq (Tm 67) (.cst (.p (.int .u64 4294967296)))),Om 69 68,Oo 70 69 15,Oo 71 69 10,Od 72 69 (.bin .mul (Tm 70) (Tm 71)),Oo 73 69 16,Od 74 69 (.bin .mul (.cst (.p (.int .u64 4294967296))) (Tm 73)),Oo 75 69 13,Od 76 69 (.bin .add (Tm 74) (Tm 75)),Od 77 69 (.bin .gtr (Tm 72) (Tm 76)),Ou 78 69 77]) (.cond (Tm 78) (.skip) (.exit 0))) (.block 1 (.seq (.region [Om 79 15,Oa 80 (.bin .sub (Tm 79) (.cst (.p (.int .u64 1)))),Om 15 80]) (.seq (.region [Om 81 16,Om 82 9,Oa 83 (.bin .add (Tm 81) (Tm 82)),Om 16 83]) (.seq (.region [Om 84 16,Oa 85 (.bin .geq (Tm 84) (.cst (.p (.int .u64 4294967296))))]) (.cond (Tm 85) (.exit 0) (.skip))))))))
def lf160_B1 : LCode := .block 2 (.loop (.seq (.seq (.region [Om 102 18,Oa 103 (.bin .geq (Tm 102) (.cst (.p (.int .u64 4294967296)))),Om 104 103,Oo 105 104 18,Oo 106 104 10,Od 107 104 (.bin .mul (Tm 105) (Tm 106)),Oo 108 104 16,Od 109 104 (.bin .mul (.cst (.p (.int .u64 4294967296))) (Tm 108)),Oo 110 104 14,Od 111 104 (.bin .add (Tm 109) (Tm 110)),Od 112 104 (.bin .gtr (Tm 107) (Tm 111)),Ou 113 104 112]) (.cond (Tm 113) (.skip) (.exit 2))) (.block 3 (.seq (.region [Om 114 18,Oa 115 (.bin .sub (Tm 114) (.cst (.p (.int .u64 1)))),Om 18 115]) (.seq (.region [Om 116 16,Om 117 9,Oa 118 (.bin .add (Tm 116) (Tm 117)),Om 16 118]) (.seq (.region [Om 119 16,Oa 120 (.bin .geq (Tm 119) (.cst (.p (.int .u64 4294967296))))]) (.cond (Tm 120) (.exit 2) (.skip))))))))
def lf160 : LFunc := ⟨135,[.slot 6,.slot 7],.seq (.region [Oa 6 (.mov (.cst (.p (.int .u64 0)))),Oa 7 (.mov (.cst (.p (.int .u64 0))))]) (.seq (.seq (.region [Om 19 2,Oa 20 (.bin .eql (Tm 19) (.cst (.p (.int .u64 0))))]) (.cond (Tm 20) (.region [Oa 21 (.load 1 false (.cst .junk)),Ob .bad]) (.skip))) (.seq (.seq (.region [Om 22 2,Om 23 0,Oa 24 (.bin .leq (Tm 22) (Tm 23))]) (.cond (Tm 24) (.region [Oa 25 (.load 1 false (.cst .junk)),Ob .bad]) (.skip))) (.seq (.seq (.region [Om 26 0,Oa 27 (.bin .eql (Tm 26) (.cst (.p (.int .u64 0))))]) (.cond (Tm 27) (.seq (.regionD [Om 28 1,Om 29 2,Oa 30 (.bin .quo (Tm 28) (Tm 29)),Om 31 1,Om 32 2,Oa 33 (.bin .rem (Tm 31) (Tm 32)),Om 6 30,Om 7 33]) (.ret)) (.skip))) (.seq (.region [Om 34 2,Oa 35 (.call 152 [Tm 34]),Oa 36 (.conv (.toInt .u64) (Tm 35)),Om 8 36]) (.seq (.region [Om 37 2,Om 38 8,Oa 39 (.bin .shl (Tm 37) (Tm 38)),Om 2 39]) (.seq (.region [Om 40 2,Oa 41 (.bin .shr (Tm 40) (.cst (.p (.int .u64 32)))),Om 9 41]) (.seq (.region [Om 42 2,Oa 43 (.bin .and (Tm 42) (.cst (.p (.int .u64 4294967295)))),Om 10 43]) (.seq (.region [Om 44 0,Om 45 8,Oa 46 (.bin .shl (Tm 44) (Tm 45)),Om 47 1,Om 48 8,Oa 49 (.bin .sub (.cst (.p (.int .u64 64))) (Tm 48)),Oa 50 (.bin .shr (Tm 47) (Tm 49)),Oa 51 (.bin .or (Tm 46) (Tm 50)),Om 11 51]) (.seq (.region [Om 52 1,Om 53 8,Oa 54 (.bin .shl (Tm 52) (Tm 53)),Om 12 54]) (.seq (.region [Om 55 12,Oa 56 (.bin .shr (Tm 55) (.cst (.p (.int .u64 32)))),Om 13 56]) (.seq (.region [Om 57 12,Oa 58 (.bin .and (Tm 57) (.cst (.p (.int .u64 4294967295)))),Om 14 58]) (.seq (.region [Om 59 11,Om 60 9,Oa 61 (.bin .quo (Tm 59) (Tm 60)),Om 15 61]) (.seq (.region [Om 62 11,Om 63 15,Om 64 9,Oa 65 (.bin .mul (Tm 63) (Tm 64)),Oa 66 (.bin .sub (Tm 62) (Tm 65)),Om 16 66]) (.seq (lf160_B0) (.seq (.region [Om 86 11,Oa 87 (.bin .mul (Tm 86) (.cst (.p (.int .u64 4294967296)))),Om 88 13,Oa 89 (.bin .add (Tm 87) (Tm 88)),Om 90 15,Om 91 2,Oa 92 (.bin .mul (Tm 90) (Tm 91)),Oa 93 (.bin .sub (Tm 89) (Tm 92)),Om 17 93]) (.seq (.region [Om 94 17,Om 95 9,Oa 96
 (.bin .quo (Tm 94) (Tm 95)),Om 18 96]) (.seq (.region [Om 97 17,Om 98 18,Om 99 9,Oa 100 (.bin .mul (Tm 98) (Tm 99)),Oa 101 (.bin .sub (Tm 97) (Tm 100)),Om 16 101]) (.seq (lf160_B1) (.seq (.region [Om 121 15,Oa 122 (.bin .mul (Tm 121) (.cst (.p (.int .u64 4294967296)))),Om 123 18,Oa 124 (.bin .add (Tm 122) (Tm 123)),Om 125 17,Oa 126 (.bin .mul (Tm 125) (.cst (.p (.int .u64 4294967296)))),Om 127 14,Oa 128 (.bin .add (Tm 126) (Tm 127)),Om 129 18,Om 130 2,Oa 131 (.bin .mul (Tm 129) (Tm 130)),Oa 132 (.bin .sub (Tm 128) (Tm 131)),Om 133 8,Oa 134 (.bin .shr (Tm 132) (Tm 133)),Om 6 124,Om 7 134]) (.ret))))))))))))))))))))⟩
theorem low160 : lowFunc Tryz.prog gl0 160 = some lf160 := Go.Abs.lowF (by kernel_rfl)
def lf152 : LFunc := ⟨6,[.slot 2],.seq (.region [Oa 2 (.mov (Kz 0))]) (.seq (.region [Om 3 0,Oa 4 (.call 100 [Tm 3]),Oa 5 (.bin .sub (Kz 64) (Tm 4)),Om 2 5]) (.ret))⟩
theorem low152 : lowFunc Tryz.prog gl0 152 = some lf152 := Go.Abs.lowF (by kernel_rfl)
def lf100 : LFunc := ⟨25,[.slot 2],.seq (.region [Oa 2 (.mov (Kz 0))]) (.seq (.seq (.region [Om 3 0,Oa 4 (.bin .geq (Tm 3) (.cst (.p (.int .u64 4294967296))))]) (.cond (Tm 4) (.seq (.region [Om 5 0,Oa 6 (.bin .shr (Tm 5) (.cst (.p (.int .u64 32)))),Om 0 6]) (.region [Oa 2 (.mov (Kz 32))])) (.skip))) (.seq (.seq (.region [Om 7 0,Oa 8 (.bin .geq (Tm 7) (.cst (.p (.int .u64 65536))))]) (.cond (Tm 8) (.seq (.region [Om 9 0,Oa 10 (.bin .shr (Tm 9) (.cst (.p (.int .u64 16)))),Om 0 10]) (.region [Om 11 2,Oa 12 (.bin .add (Tm 11) (Kz 16)),Om 2 12])) (.skip))) (.seq (.seq (.region [Om 13 0,Oa 14 (.bin .geq (Tm 13) (.cst (.p (.int .u64 256))))]) (.cond (Tm 14) (.seq (.region [Om 15 0,Oa 16 (.bin .shr (Tm 15) (.cst (.p (.int .u64 8)))),Om 0 16]) (.region [Om 17 2,Oa 18 (.bin .add (Tm 17) (Kz 8)),Om 2 18])) (.skip))) (.seq (.region [Om 19 2,Om 20 0,Oa 21 (.conv (.toInt .u8) (Tm 20)),Oa 22 (.istr (.cst (.p (.str [0,1,2,2,3,3,3,3,4,4,4,4,4,4,4,4,5,5,5,5,5,5,5,5,5,5,5,5,5,5,5,5,6,6,6,6,6,6,6,6,6,6,6,6,6,6,6,6,6,6,6,6,6,6,6,6,6,6,6,6,6,6,6,6,7,7,7,7,7,7,7,7,7,7,7,7,7,7,7,7,7,7,7,7,7,7,7,7,7,7,7,7,7,7,7,7,7,7,7,7,7,7,7,7,7,7,7,7,7,7,7,7,7,7,7,7,7,7,7,7,7,7,7,7,7,7,7,7,8,8,8,8,8,8,8,8,8,8,8,8,8,8,8,8,8,8,8,8,8,8,8,8,8,8,8,8,8,8,8,8,8,8,8,8,8,8,8,8,8,8,8,8,8,8,8,8,8,8,8,8,8,8,8,8,8,8,8,8,8,8,8,8,8,8,8,8,8,8,8,8,8,8,8,8,8,8,8,8,8,8,8,8,8,8,8,8,8,8,8,8,8,8,8,8,8,8,8,8,8,8,8,8,8,8,8,8,8,8,8,8,8,8,8,8,8,8,8,8,8,8,8,8,8,8,8,8]))) (Tm 21)),Oa 23 (.conv (.toInt .i64) (Tm 22)),Oa 24 (.bin .add (Tm 19) (Tm 23)),Om 2 24]) (.ret)))))⟩
theorem low100 : lowFunc Tryz.prog gl0 100 = some lf100 := Go.Abs.lowF (by kernel_rfl)
def lf143 : LFunc := ⟨51,[.slot 4,.slot 5],.seq (.region [Oa 4 (.mov (.cst (.p (.int .u64 0)))),Oa 5 (.mov (.cst (.p (.int .u64 0))))]) (.seq (.region [Om 14 0,Oa 15 (.bin .and (Tm 14) (.cst (.p (.int .u64 4294967295)))),Om 6 15]) (.seq (.region [Om 16 0,Oa 17 (.bin .shr (Tm 16) (.cst (.p (.int .u64 32)))),Om 7 17]) (.seq (.region [Om 18 1,Oa 19 (.bin .and (Tm 18) (.cst (.p (.int .u64 4294967295)))),Om 8 19]) (.seq (.region [Om 20 1,Oa 21 (.bin .shr (Tm 20) (.cst (.p (.int .u64 32)))),Om 9 21]) (.seq (.region [Om 22 6,Om 23 8,Oa 24 (.bin .mul (Tm 22) (Tm 23)),Om 10 24]) (.seq (.region [Om 25 7,Om 26 8,Oa 27 (.bin .mul (Tm 25) (Tm 26)),Om 28 10,Oa 29 (.bin .shr (Tm 28) (.cst (.p (.int .u64 32)))),Oa 30 (.bin .add (Tm 27) (Tm 29)),Om 11 30]) (.seq (.region [Om 31 11,Oa 32 (.bin .and (Tm 31) (.cst (.p (.int .u64 4294967295)))),Om 12 32]) (.seq (.region [Om 33 11,Oa 34 (.bin .shr (Tm 33) (.cst (.p (.int .u64 32)))),Om 13 34]) (.seq (.region [Om 35 12,Om 36 6,Om 37 9,Oa 38 (.bin .mul (Tm 36) (Tm 37)),Oa 39 (.bin .add (Tm 35) (Tm 38)),Om 12 39]) (.seq (.region [Om 40 7,Om 41 9,Oa 42 (.bin .mul (Tm 40) (Tm 41)),Om 43 13,Oa 44 (.bin .add (Tm 42) (Tm 43)),Om 45 12,Oa 46 (.bin .shr (Tm 45) (.cst (.p (.int .u64 32)))),Oa 47 (.bin .add (Tm 44) (Tm 46)),Om 4 47]) (.seq (.region [Om 48 0,Om 49 1,Oa 50 (.bin .mul (Tm 48) (Tm 49)),Om 5 50]) (.ret))))))))))))⟩
theorem low143 : lowFunc Tryz.prog gl0 143 = some lf143 := Go.Abs.lowF (by kernel_rfl)
def lf107_B0 : LCode := .block 0 (.loop (.seq (.seq (.region [Om 7 1,Oa 8 (.len (Tm 7)),Oa 9 (.bin .gtr (Tm 8) (Kz 0))]) (.cond (Tm 9) (.skip) (.exit 0))) (.block 1 (.seq (.region [Om 11 0,Om 12 1,Oa 13 (.call 137 [Tm 11,Tm 12]),Om 10 13,Ox 14 10 0,Ox 15 10 1,Om 5 14,Om 6 15]) (.region [Om 16 1,Om 17 6,Om 0 16,Om 1 17])))))
def lf107 : LFunc := ⟨20,[.slot 4],.seq (.region [Oa 4 (.mov (.cst (.tight [])))]) (.seq (lf107_B0) (.seq (.region [Om 18 0,Oa 19 (.call 117 [Tm 18]),Om 4 19]) (.ret)))⟩
theorem low107 : lowFunc Tryz.prog gl0 107 = some lf107 := Go.Abs.lowF (by kernel_rfl)
def lf153_B0 : LCode := .block 0 (.loop (.seq (.region [Oa 22 (.bin .lss (Tm 21) (Tm 20))]) (.seq (.cond (Tm 22) (.skip) (.exit 0)) (.seq (.block 1 (.seq (.region [Om 23 21,Oa 24 (.iadr 1 (Tm 19) (Tm 21)),Oq 25 1 false 24,Om 7 23,Om 8 25]) (.seq (.region [Om 26 5,Om 27 7,Om 28 1,Oa 29 (.bin .quo (Tm 28) (Kz 64)),Oa 30 (.bin .add (Tm 27) (Tm 29)),Oa 31 (.iadr 1 (Tm 26) (Tm 30)),Oq 32 1 false 31,Om 33 8,Om 34 6,Oa 35 (.bin .shl (Tm 33) (Tm 34)),Oa 36 (.bin .or (Tm 32) (Tm 35)),Oa 37 (.iadr 1 (Tm 26) (Tm 30)),Oy 1 37 36]) (.seq (.region [Om 38 6,Oa 39 (.bin .gtr (Tm 38) (.cst (.p (.int .u64 0))))]) (.cond (Tm 39) (.region [Om 40 5,Om 41 7,Om 42 1,Oa 43 (.bin .quo (Tm 42) (Kz 64)),Oa 44 (.bin .add (Tm 41) (Tm 43)),Oa 45 (.bin .add (Tm 44) (Kz 1)),Oa 46 (.iadr 1 (Tm 40) (Tm 45)),Oq 47 1 false 46,Om 48 8,Om 49 6,Oa 50 (.bin .sub (.cst (.p (.int .u64 64))) (Tm 49)),Oa 51 (.bin .shr (Tm 48) (Tm 50)),Oa 52 (.bin .or (Tm 47) (Tm 51)),Oa 53 (.iadr 1 (Tm 40) (Tm 45)),Oy 1 53 52]) (.skip)))))) (.region [Oa 54 (.bin .add (Tm 21) (Kz 1)),Om 21 54])))))
def lf153 : LFunc := ⟨57,[.slot 4],.seq (.region [Oa 4 (.mov (.cst (.tight [])))]) (.seq (.region [Om 9 0,Oa 10 (.len (Tm 9)),Om 11 1,Oa 12 (.bin .quo (Tm 11) (Kz 64)),Oa 13 (.bin .add (Tm 10) (Tm 12)),Oa 14 (.bin .add (Tm 13) (Kz 1)),Oa 15 (.mksl 1 8 147 (.p (.int .u64 0)) (Tm 14) (Tm 14)),Om 5 15]) (.seq (.region [Om 16 1,Oa 17 (.bin .rem (Tm 16) (Kz 64)),Oa 18 (.conv (.toInt .u64) (Tm 17)),Om 6 18]) (.seq (.seq (.region [Om 19 0,Oa 20 (.len (Tm 19)),Oa 21 (.mov (Kz 0))]) (lf153_B0)) (.seq (.region [Om 55 5,Oa 56 (.call 139 [Tm 55]),Om 4 56]) (.ret)))))⟩
theorem low153 : lowFunc Tryz.prog gl0 153 = some lf153 := Go.Abs.lowF (by kernel_rfl)
def lf142_B0 : LCode := .block 0 (.loop (.seq (.region [Oa 16 (.bin .lss (Tm 15) (Tm 14))]) (.seq (.cond (Tm 16) (.skip) (.exit 0)) (.seq (.block 1 (.seq (.region [Om 17 15,Oa 18 (.iadr 1 (Tm 13) (Tm 15)),Oq 19 1 false 18,Om 7 17,Om 8 19]) (.seq (.region [Oa 9 (.mov (.cst (.p (.int .u64 0))))]) (.seq (.seq (.region [Om 20 7,Om 21 1,Oa 22 (.len (Tm 21)),Oa 23 (.bin .lss (Tm 20) (Tm 22))]) (.cond (Tm 23) (.region [Om 24 1,Om 25 7,Oa 26 (.iadr 1 (Tm 24) (Tm 25)),Oq 27 1 false 26,Om 9 27]) (.skip))) (.region [Om 29 5,Om 30 7,Om 31 8,Om 32 9,Om 33 6,Oa 34 (.calle 148 [Tm 31,Tm 32,Tm 33]),Om 28 34,Ox 35 28 0,Ox 36 28 1,Oa 37 (.iadr 1 (Tm 29) (Tm 30)),Oy 1 37 35,Om 6 36]))))) (.region [Oa 38 (.bin .add (Tm 15) (Kz 1)),Om 15 38])))))
def lf142 : LFunc := ⟨41,[.slot 4],.seq (.region [Oa 4 (.mov (.cst (.tight [])))]) (.seq (.region [Om 10 0,Oa 11 (.len (Tm 10)),Oa 12 (.mksl 1 8 147 (.p (.int .u64 0)) (Tm 11) (Tm 11)),Om 5 12]) (.seq (.region [Oa 6 (.mov (.cst (.p (.int .u64 0))))]) (.seq (.seq (.region [Om 13 0,Oa 14 (.len (Tm 13)),Oa 15 (.mov (Kz 0))]) (lf142_B0)) (.seq (.region [Om 39 5,Oa 40 (.call 139 [Tm 39]),Om 4 40]) (.ret)))))⟩
theorem low142 : lowFunc Tryz.prog gl0 142 = some lf142 := Go.Abs.lowF (by kernel_rfl)
def lf113 : LFunc := ⟨8,[.slot 2],.seq (.region [Oa 2 (.mov (.cst (.tight [])))]) (.seq (.seq (.region [Om 3 0,Oa 4 (.bin .leq (Tm 3) (Kz 0))]) (.cond (Tm 4) (.seq (.region [Oa 2 (.mov (.cst (.tight [])))]) (.ret)) (.skip))) (.seq (.region [Om 5 0,Oa 6 (.conv (.toInt .u64) (Tm 5)),Oa 7 (.buildSl 1 147 (.p (.int .u64 0)) 1 [(0,(Tm 6))]),Om 2 7]) (.ret)))⟩
theorem low113 : lowFunc Tryz.prog gl0 113 = some lf113 := Go.Abs.lowF (by kernel_rfl)
def lf106_B0 : LCode := .block 0 (.loop (.seq (.seq (.region [Om 19 5,Oa 20 (.bin .geq (Tm 19) (Kz 0))]) (.cond (Tm 20) (.skip) (.exit 0))) (.seq (.block 1 (.seq (.regionD [Om 23 0,Om 24 5,Oa 25 (.iadr 1 (Tm 23) (Tm 24)),Oq 26 1 false 25,Om 27 1,Om 28 5,Oa 29 (.iadr 1 (Tm 27) (Tm 28)),Oq 30 1 false 29,Oa 31 (.bin .neq (Tm 26) (Tm 30))]) (.cond (Tm 31) (.seq (.regionD [Om 32 0,Om 33 5,Oa 34 (.iadr 1 (Tm 32) (Tm 33)),Oq 35 1 false 34,Om 36 1,Om 37 5,Oa 38 (.iadr 1 (Tm 36) (Tm 37)),Oq 39 1 false 38,Oa 40 (.call 136 [Tm 35,Tm 39]),Om 4 40]) (.ret)) (.skip)))) (.region [Om 21 5,Oa 22 (.bin .sub (Tm 21) (Kz 1)),Om 5 22]))))
def lf106 : LFunc := ⟨41,[.slot 4],.seq (.region [Oa 4 (.mov (Kz 0))]) (.seq (.seq (.region [Om 6 0,Oa 7 (.len (Tm 6)),Om 8 1,Oa 9 (.len (Tm 8)),Oa 10 (.bin .neq (Tm 7) (Tm 9))]) (.cond (Tm 10) (.seq (.region [Om 11 0,Oa 12 (.len (Tm 11)),Om 13 1,Oa 14 (.len (Tm 13)),Oa 15 (.call 135 [Tm 12,Tm 14]),Om 4 15]) (.ret)) (.skip))) (.seq (.seq (.region [Om 16 0,Oa 17 (.len (Tm 16)),Oa 18 (.bin .sub (Tm 17) (Kz 1)),Om 5 18]) (lf106_B0)) (.seq (.region [Oa 4 (.mov (Kz 0))]) (.ret))))⟩
theorem low106 : lowFunc Tryz.prog gl0 106 = some lf106 := Go.Abs.lowF (by kernel_rfl)
def lf141_B0 : LCode := .block 0 (.loop (.seq (.region [Oa 24 (.bin .lss (Tm 23) (Tm 22))]) (.seq (.cond (Tm 24) (.skip) (.exit 0)) (.seq (.block 1 (.seq (.region [Om 25 23,Oa 26 (.iadr 1 (Tm 21) (Tm 23)),Oq 27 1 false 26,Om 7 25,Om 8 27]) (.seq (.region [Oa 9 (.mov (.cst (.p (.int .u64 0))))]) (.seq (.seq (.region [Om 28 7,Om 29 1,Oa 30 (.len (Tm 29)),Oa 31 (.bin .lss (Tm 28) (Tm 30))]) (.cond (Tm 31) (.region [Om 32 1,Om 33 7,Oa 34 (.iadr 1 (Tm 32) (Tm 33)),Oq 35 1 false 34,Om 9 35]) (.skip))) (.region [Om 37 5,Om 38 7,Om 39 8,Om 40 9,Om 41 6,Oa 42 (.calle 144 [Tm 39,Tm 40,Tm 41]),Om 36 42,Ox 43 36 0,Ox 44 36 1,Oa 45 (.iadr 1 (Tm 37) (Tm 38)),Oy 1 45 43,Om 6 44]))))) (.region [Oa 46 (.bin .add (Tm 23) (Kz 1)),Om 23 46])))))
def lf141 : LFunc := ⟨54,[.slot 4],.seq (.region [Oa 4 (.mov (.cst (.tight [])))]) (.seq (.seq (.region [Om 10 0,Oa 11 (.len (Tm 10)),Om 12 1,Oa 13 (.len (Tm 12)),Oa 14 (.bin .lss (Tm 11) (Tm 13))]) (.cond (Tm 14) (.region [Om 15 1,Om 16 0,Om 0 15,Om 1 16]) (.skip))) (.seq (.region [Om 17 0,Oa 18 (.len (Tm 17)),Oa 19 (.bin .add (Tm 18) (Kz 1)),Oa 20 (.mksl 1 8 147 (.p (.int .u64 0)) (Tm 19) (Tm 19)),Om 5 20]) (.seq (.region [Oa 6 (.mov (.cst (.p (.int .u64 0))))]) (.seq (.seq (.region [Om 21 0,Oa 22 (.len (Tm 21)),Oa 23 (.mov (Kz 0))]) (lf141_B0)) (.seq (.region [Om 47 5,Om 48 0,Oa 49 (.len (Tm 48)),Om 50 6,Oa 51 (.iadr 1 (Tm 47) (Tm 49)),Oy 1 51 50]) (.seq (.region [Om 52 5,Oa 53 (.call 139 [Tm 52]),Om 4 53]) (.ret)))))))⟩
theorem low141 : lowFunc Tryz.prog gl0 141 = some lf141 := Go.Abs.lowF (by kernel_rfl)
def lf137_B0 : LCode := .block 3 (.loop (.seq (.seq (.region [Om 113 13]) (.cond (Tm 113) (.skip) (.exit 3))) (.seq (.block 4 (.seq (.region [Om 116 10,Om 117 11,Om 118 8,Oa 119 (.bin .add (Tm 117) (Tm 118)),Oa 120 (.iadr 1 (Tm 116) (Tm 119)),Oq 121 1 false 120,Om 14 121]) (.seq (.region [Om 122 10,Om 123 11,Om 124 11,Om 125 8,Oa 126 (.bin .add (Tm 124) (Tm 125)),Oa 127 (.bin .add (Tm 126) (Kz 1)),Oa 128 (.slSl 1 (Tm 122) (some (Tm 123)) (some (Tm 127)) none),Om 129 1,Oa 130 (.call 156 [Tm 128,Tm 129])]) (.region [Om 131 10,Om 132 11,Om 133 8,Oa 134 (.bin .add (Tm 132) (Tm 133)),Oa 135 (.iadr 1 (Tm 131) (Tm 134)),Oq 136 1 false 135,Om 137 14,Oa 138 (.bin .geq (Tm 136) (Tm 137)),Om 13 138])))) (.region [Om 114 12,Oa 115 (.bin .sub (Tm 114) (.cst (.p (.int .u64 1)))),Om 12 115]))))
def lf137_B1 : LCode := .block 1 (.loop (.seq (.seq (.region [Om 68 11,Oa 69 (.bin .geq (Tm 68) (Kz 0))]) (.cond (Tm 69) (.skip) (.exit 1))) (.seq (.block 2 (.seq (.regionD [Om 72 10,Om 73 11,Om 74 8,Oa 75 (.bin .add (Tm 73) (Tm 74)),Oa 76 (.iadr 1 (Tm 72) (Tm 75)),Oq 77 1 false 76,Om 78 10,Om 79 11,Om 80 8,Oa 81 (.bin .add (Tm 79) (Tm 80)),Oa 82 (.bin .sub (Tm 81) (Kz 1)),Oa 83 (.iadr 1 (Tm 78) (Tm 82)),Oq 84 1 false 83,Om 85 10,Om 86 11,Om 87 8,Oa 88 (.bin .add (Tm 86) (Tm 87)),Oa 89 (.bin .sub (Tm 88) (Kz 2)),Oa 90 (.iadr 1 (Tm 85) (Tm 89)),Oq 91 1 false 90,Om 92 1,Om 93 8,Oa 94 (.bin .sub (Tm 93) (Kz 1)),Oa 95 (.iadr 1 (Tm 92) (Tm 94)),Oq 96 1 false 95,Om 97 1,Om 98 8,Oa 99 (.bin .sub (Tm 98) (Kz 2)),Oa 100 (.iadr 1 (Tm 97) (Tm 99)),Oq 101 1 false 100,Oa 102 (.call 154 [Tm 77,Tm 84,Tm 91,Tm 96,Tm 101]),Om 12 102]) (.seq (.seq (.region [Om 103 10,Om 104 11,Om 105 11,Om 106 8,Oa 107 (.bin .add (Tm 105) (Tm 106)),Oa 108 (.bin .add (Tm 107) (Kz 1)),Oa 109 (.slSl 1 (Tm 103) (some (Tm 104)) (some (Tm 108)) none),Om 110 1,Om 111 12,Oa 112 (.call 155 [Tm 109,Tm 110,Tm 111]),Om 13 112]) (lf137_B0)) (.region [Om 139 4,Om 140 11,Om 141 12,Oa 142 (.iadr 1 (Tm 139) (Tm 140)),Oy 1 142 141])))) (.region [Om 70 11,Oa 71 (.bin .sub (Tm 70) (Kz 1)),Om 11 71]))))
def lf137 : LFunc := ⟨149,[.slot 4,.slot 5],.seq (.region [Oa 4 (.mov (.cst (.tight []))),Oa 5 (.mov (.cst (.tight [])))]) (.seq (.block 0 (.seq (.region [Om 16 0,Om 17 1,Oa 18 (.call 106 [Tm 16,Tm 17]),Oa 19 (.bin .lss (Tm 18) (Kz 0)),Om 15 19]) (.cond (Tm 15) (.seq (.region [Om 20 0,Oa 21 (.call 139 [Tm 20]),Oa 22 (.call 117 [Tm 21]),Oa 4 (.mov (.cst (.tight []))),Om 5 22]) (.ret)) (.seq (.region [Om 24 1,Oa 25 (.len (Tm 24)),Oa 26 (.bin .eql (Tm 25) (Kz 1)),Om 23 26]) (.cond (Tm 23) (.seq (.region [Om 28 0,Om 29 1,Oa 30 (.iadr 1 (Tm 29) (Kz 0)),Oq 31 1 false 30,Oa 32 (.call 151 [Tm 28,Tm 31]),Om 27 32,Ox 33 27 0,Ox 34 27 1,Om 6 33,Om 7 34]) (.seq (.region [Om 35 6,Om 36 7,Oa 37 (.buildSl 1 147 (.p (.int .u64 0)) 1 [(0,(Tm 36))]),Oa 38 (.call 139 [Tm 37]),Om 4 35,Om 5 38]) (.ret))) (.skip)))))) (.seq (.region [Om 39 1,Oa 40 (.len (Tm 39)),Om 8 40]) (.seq (.region [Om 41 1,Om 42 8,Oa 43 (.bin .sub (Tm 42) (Kz 1)),Oa 44 (.iadr 1 (Tm 41) (Tm 43)),Oq 45 1 false 44,Oa 46 (.call 152 [Tm 45]),Om 9 46]) (.seq (.region [Om 47 1,Om 48 9,Oa 49 (.call 153 [Tm 47,Tm 48]),Om 1 49]) (.seq (.region [Om 50 0,Oa 51 (.len (Tm 50)),Oa 52 (.bin .add (Tm 51) (Kz 1)),Oa 53 (.mksl 1 8 147 (.p (.int .u64 0)) (Tm 52) (Tm 52)),Om 10 53]) (.seq (.region [Om 54 10,Om 55 0,Om 56 9,Oa 57 (.call 153 [Tm 55,Tm 56]),Oa 58 (.cpy 1 (Tm 54) (Tm 57))]) (.seq (.region [Om 59 0,Oa 60 (.len (Tm 59)),Om 61 8,Oa 62 (.bin .sub (Tm 60) (Tm 61)),Oa 63 (.bin .add (Tm 62) (Kz 1)),Oa 64 (.mksl 1 8 147 (.p (.int .u64 0)) (Tm 63) (Tm 63)),Om 4 64]) (.seq (.seq (.region [Om 65 4,Oa 66 (.len (Tm 65)),Oa 67 (.bin .sub (Tm 66) (Kz 1)),Om 11 67]) (lf137_B1)) (.seq (.region [Om 143 4,Oa 144 (.call 139 [Tm 143]),Om 145 10,Oa 146 (.call 139 [Tm 145]),Om 147 9,Oa 148 (.call 157 [Tm 146,Tm 147]),Om 4 144,Om 5 148]) (.ret))))))))))⟩
theorem low137 : lowFunc Tryz.prog gl0 137 = some lf137 := Go.Abs.lowF (by kernel_rfl)
def lf157_B0 : LCode := .block 0 (.loop (.seq (.region [Oa 27 (.bin .lss (Tm 26) (Tm 25))]) (.seq (.cond (Tm 27) (.skip) (.exit 0)) (.seq (.block 1 (.seq (.region [Om 28 26,Oa 29 (.iadr 1 (Tm 24) (Tm 26)),Oq 30 1 false 29,Om 7 28,Om 8 30]) (.seq (.region [Om 31 6,Om 32 7,Om 33 8,Om 34 5,Oa 35 (.bin .shr (Tm 33) (Tm 34)),Oa 36 (.iadr 1 (Tm 31) (Tm 32)),Oy 1 36 35]) (.seq (.region [Om 37 5,Oa 38 (.bin .gtr (Tm 37) (.cst (.p (.int .u64 0)))),Om 39 38,Oj 40 39 7,Oc 41 39 (.bin .add (Tm 40) (Kz 1)),Oj 42 39 0,Oc 43 39 (.len (Tm 42)),Oc 44 39 (.bin .lss (Tm 41) (Tm 43)),Ot 45 39 44]) (.cond (Tm 45) (.regionW [(Om 46 6,.f),(Om 47 7,.f),(Oa 48 (.iadr 1 (Tm 46) (Tm 47)),.f),(Oq 49 1 false 48,.f),(Om 50 0,.f),(Om 51 7,.f),(Oa 52 (.bin .add (Tm 51) (Kz 1)),.f),(Oa 53 (.iadr 1 (Tm 50) (Tm 52)),.f),(Oq 54 1 false 53,.f),(Om 55 5,.f),(Oa 56 (.bin .sub (.cst (.p (.int .u64 64))) (Tm 55)),.f),(Oa 57 (.bin .shl (Tm 54) (Tm 56)),.f),(Oa 58 (.bin .or (Tm 49) (Tm 57)),.f),(Oa 59 (.iadr 1 (Tm 46) (Tm 47)),.f),(Oy 1 59 58,.f)]) (.skip)))))) (.region [Oa 60 (.bin .add (Tm 26) (Kz 1)),Om 26 60])))))
def lf157 : LFunc := ⟨63,[.slot 4],.seq (.region [Oa 4 (.mov (.cst (.tight [])))]) (.seq (.seq (.region [Om 9 1,Oa 10 (.bin .quo (Tm 9) (Kz 64)),Om 11 0,Oa 12 (.len (Tm 11)),Oa 13 (.bin .geq (Tm 10) (Tm 12))]) (.cond (Tm 13) (.seq (.region [Oa 4 (.mov (.cst (.tight [])))]) (.ret)) (.skip))) (.seq (.region [Om 14 0,Om 15 1,Oa 16 (.bin .quo (Tm 15) (Kz 64)),Oa 17 (.slSl 1 (Tm 14) (some (Tm 16)) none none),Om 0 17]) (.seq (.region [Om 18 1,Oa 19 (.bin .rem (Tm 18) (Kz 64)),Oa 20 (.conv (.toInt .u64) (Tm 19)),Om 5 20]) (.seq (.region [Om 21 0,Oa 22 (.len (Tm 21)),Oa 23 (.mksl 1 8 147 (.p (.int .u64 0)) (Tm 22) (Tm 22)),Om 6 23]) (.seq (.seq (.region [Om 24 0,Oa 25 (.len (Tm 24)),Oa 26 (.mov (Kz 0))]) (lf157_B0)) (.seq (.region [Om 61 6,Oa 62 (.call 139 [Tm 61]),Om 4 62]) (.ret)))))))⟩
theorem low157 : lowFunc Tryz.prog gl0 157 = some lf157 := Go.Abs.lowF (by kernel_rfl)
def lf109_B0 : LCode := .block 0 (.loop (.seq (.region [Oa 18 (.bin .lss (Tm 17) (Tm 16))]) (.seq (.cond (Tm 18) (.skip) (.exit 0)) (.seq (.block 1 (.seq (.region [Om 19 17,Oa 20 (.iadr 1 (Tm 15) (Tm 17)),Oq 21 1 false 20,Om 6 19,Om 7 21]) (.region [Om 22 5,Om 23 6,Om 24 6,Om 25 0,Oa 26 (.len (Tm 25)),Oa 27 (.bin .add (Tm 24) (Tm 26)),Oa 28 (.bin .add (Tm 27) (Kz 1)),Oa 29 (.slSl 1 (Tm 22) (some (Tm 23)) (some (Tm 28)) none),Om 30 0,Om 31 7,Oa 32 (.call 138 [Tm 29,Tm 30,Tm 31])]))) (.region [Oa 33 (.bin .add (Tm 17) (Kz 1)),Om 17 33])))))
def lf109 : LFunc := ⟨36,[.slot 4],.seq (.region [Oa 4 (.mov (.cst (.tight [])))]) (.seq (.region [Om 8 0,Oa 9 (.len (Tm 8)),Om 10 1,Oa 11 (.len (Tm 10)),Oa 12 (.bin .add (Tm 9) (Tm 11)),Oa 13 (.bin .add (Tm 12) (Kz 1)),Oa 14 (.mksl 1 8 147 (.p (.int .u64 0)) (Tm 13) (Tm 13)),Om 5 14]) (.seq (.seq (.region [Om 15 1,Oa 16 (.len (Tm 15)),Oa 17 (.mov (Kz 0))]) (lf109_B0)) (.seq (.region [Om 34 5,Oa 35 (.call 139 [Tm 34]),Om 4 35]) (.ret))))⟩
theorem low109 : lowFunc Tryz.prog gl0 109 = some lf109 := Go.Abs.lowF (by kernel_rfl)
def lf105 : LFunc := ⟨20,[.slot 2],.seq (.region [Oa 2 (.mov Kg)]) (.seq (.region [Om 3 0,Oa 4 (.len (Tm 3)),Oa 5 (.bin .leq (Tm 4) (Kz 64)),Om 6 5,Oj 7 6 0,Oc 8 6 (.len (Tm 7)),Oc 9 6 (.bin .eql (Tm 8) (Kz 0)),Oj 10 6 9,Oo 11 10 0,Oo 12 10 0,Od 13 10 (.len (Tm 12)),Od 14 10 (.bin .sub (Tm 13) (Kz 1)),Od 15 10 (.iadr 1 (Tm 11) (Tm 14)),Od 16 10 (.load 1 false (Tm 15)),Od 17 10 (.bin .neq (Tm 16) (.cst (.p (.int .u64 0)))),Oc 18 6 (.pick (Tm 10) Kt (Tm 17)),Ot 19 6 18,Om 2 19]) (.ret))⟩
theorem low105 : lowFunc Tryz.prog gl0 105 = some lf105 := Go.Abs.lowF (by kernel_rfl)
def lf151_B0 : LCode := .block 0 (.loop (.seq (.seq (.region [Om 13 6,Oa 14 (.bin .geq (Tm 13) (Kz 0))]) (.cond (Tm 14) (.skip) (.exit 0))) (.seq (.block 1 (.region [Om 18 4,Om 19 6,Om 20 5,Om 21 0,Om 22 6,Oa 23 (.iadr 1 (Tm 21) (Tm 22)),Oq 24 1 false 23,Om 25 1,Oa 26 (.call 160 [Tm 20,Tm 24,Tm 25]),Om 17 26,Ox 27 17 0,Ox 28 17 1,Oa 29 (.iadr 1 (Tm 18) (Tm 19)),Oy 1 29 27,Om 5 28])) (.region [Om 15 6,Oa 16 (.bin .sub (Tm 15) (Kz 1)),Om 6 16]))))
def lf151 : LFunc := ⟨33,[.slot 4,.slot 5],.seq (.region [Oa 4 (.mov (.cst (.tight []))),Oa 5 (.mov (.cst (.p (.int .u64 0))))]) (.seq (.region [Om 7 0,Oa 8 (.len (Tm 7)),Oa 9 (.mksl 1 8 147 (.p (.int .u64 0)) (Tm 8) (Tm 8)),Om 4 9]) (.seq (.seq (.region [Om 10 0,Oa 11 (.len (Tm 10)),Oa 12 (.bin .sub (Tm 11) (Kz 1)),Om 6 12]) (lf151_B0)) (.seq (.region [Om 30 4,Oa 31 (.call 139 [Tm 30]),Om 32 5,Om 4 31,Om 5 32]) (.ret))))⟩
theorem low151 : lowFunc Tryz.prog gl0 151 = some lf151 := Go.Abs.lowF (by kernel_rfl)
def lf154_B0 : LCode := .block 0 (.loop (.block 1 (.seq (.region [Om 27 11,Om 28 4,Oa 29 (.call 143 [Tm 27,Tm 28]),Om 26 29,Ox 30 26 0,Ox 31 26 1,Om 13 30,Om 14 31]) (.seq (.seq (.region [Om 32 13,Om 33 12,Oa 34 (.bin .lss (Tm 32) (Tm 33)),Om 35 34,Oo 36 35 13,Oo 37 35 12,Od 38 35 (.bin .eql (Tm 36) (Tm 37)),Oo 39 35 38,Oj 40 39 14,Oj 41 39 2,Oc 42 39 (.bin .leq (Tm 40) (Tm 41)),Od 43 35 (.pick (Tm 39) (Tm 42) Kg),Ou 44 35 43]) (.cond (Tm 44) (.seq (.region [Om 45 11,Om 10 45]) (.ret)) (.skip))) (.seq (.region [Om 46 11,Oa 47 (.bin .sub (Tm 46) (.cst (.p (.int .u64 1)))),Om 11 47]) (.seq (.region [Oa 15 (.mov (.cst (.p (.int .u64 0))))]) (.seq (.region [Om 49 12,Om 50 3,Oa 51 (.calle 144 [Tm 49,Tm 50,.cst (.p (.int .u64 0))]),Om 48 51,Ox 52 48 0,Ox 53 48 1,Om 12 52,Om 15 53]) (.seq (.region [Om 54 15,Oa 55 (.bin .gtr (Tm 54) (.cst (.p (.int .u64 0))))]) (.cond (Tm 55) (.seq (.region [Om 56 11,Om 10 56]) (.ret)) (.skip))))))))))
def lf154 : LFunc := ⟨57,[.slot 10],.seq (.region [Oa 10 (.mov (.cst (.p (.int .u64 0))))]) (.seq (.seq (.region [Om 16 0,Om 17 3,Oa 18 (.bin .geq (Tm 16) (Tm 17))]) (.cond (Tm 18) (.seq (.region [Oa 10 (.mov (.cst (.p (.int .u64 18446744073709551615))))]) (.ret)) (.skip))) (.seq (.region [Om 20 0,Om 21 1,Om 22 3,Oa 23 (.call 160 [Tm 20,Tm 21,Tm 22]),Om 19 23,Ox 24 19 0,Ox 25 19 1,Om 11 24,Om 12 25]) (lf154_B0)))⟩
theorem low154 : lowFunc Tryz.prog gl0 154 = some lf154 := Go.Abs.lowF (by kernel_rfl)
def lf155_B0 : LCode := .block 0 (.loop (.seq (.region [Oa 17 (.bin .lss (Tm 16) (Tm 15))]) (.seq (.cond (Tm 17) (.skip) (.exit 0)) (.seq (.block 1 (.seq (.region [Om 18 16,Oa 19 (.iadr 1 (Tm 14) (Tm 16)),Oq 20 1 false 19,Om 9 18,Om 10 20]) (.seq (.region [Om 22 10,Om 23 2,Oa 24 (.call 143 [Tm 22,Tm 23]),Om 21 24,Ox 25 21 0,Ox 26 21 1,Om 11 25,Om 12 26]) (.seq (.region [Oa 13 (.mov (.cst (.p (.int .u64 0))))]) (.seq (.region [Om 28 12,Om 29 7,Oa 30 (.calle 144 [Tm 28,Tm 29,.cst (.p (.int .u64 0))]),Om 27 30,Ox 31 27 0,Ox 32 27 1,Om 12 31,Om 13 32]) (.seq (.region [Om 33 11,Om 34 13,Oa 35 (.bin .add (Tm 33) (Tm 34)),Om 7 35]) (.region [Om 37 0,Om 38 9,Om 39 0,Om 40 9,Oa 41 (.iadr 1 (Tm 39) (Tm 40)),Oq 42 1 false 41,Om 43 12,Om 44 8,Oa 45 (.calle 148 [Tm 42,Tm 43,Tm 44]),Om 36 45,Ox 46 36 0,Ox 47 36 1,Oa 48 (.iadr 1 (Tm 37) (Tm 38)),Oy 1 48 46,Om 8 47]))))))) (.region [Oa 49 (.bin .add (Tm 16) (Kz 1)),Om 16 49])))))
def lf155 : LFunc := ⟨67,[.slot 6],.seq (.region [Oa 6 (.mov Kg)]) (.seq (.region [Oa 7 (.mov (.cst (.p (.int .u64 0)))),Oa 8 (.mov (.cst (.p (.int .u64 0))))]) (.seq (.seq (.region [Om 14 1,Oa 15 (.len (Tm 14)),Oa 16 (.mov (Kz 0))]) (lf155_B0)) (.seq (.region [Om 51 0,Om 52 1,Oa 53 (.len (Tm 52)),Om 54 0,Om 55 1,Oa 56 (.len (Tm 55)),Oa 57 (.iadr 1 (Tm 54) (Tm 56)),Oq 58 1 false 57,Om 59 7,Om 60 8,Oa 61 (.calle 148 [Tm 58,Tm 59,Tm 60]),Om 50 61,Ox 62 50 0,Ox 63 50 1,Oa 64 (.iadr 1 (Tm 51) (Tm 53)),Oy 1 64 62,Om 8 63]) (.seq (.region [Om 65 8,Oa 66 (.bin .gtr (Tm 65) (.cst (.p (.int .u64 0)))),Om 6 66]) (.ret)))))⟩
theorem low155 : lowFunc Tryz.prog gl0 155 = some lf155 := Go.Abs.lowF (by kernel_rfl)
def lf156_B0 : LCode := .block 0 (.loop (.seq (.region [Oa 10 (.bin .lss (Tm 9) (Tm 8))]) (.seq (.cond (Tm 10) (.skip) (.exit 0)) (.seq (.block 1 (.seq (.region [Om 11 9,Oa 12 (.iadr 1 (Tm 7) (Tm 9)),Oq 13 1 false 12,Om 5 11,Om 6 13]) (.region [Om 15 0,Om 16 5,Om 17 0,Om 18 5,Oa 19 (.iadr 1 (Tm 17) (Tm 18)),Oq 20 1 false 19,Om 21 6,Om 22 4,Oa 23 (.calle 144 [Tm 20,Tm 21,Tm 22]),Om 14 23,Ox 24 14 0,Ox 25 14 1,Oa 26 (.iadr 1 (Tm 15) (Tm 16)),Oy 1 26 24,Om 4 25]))) (.region [Oa 27 (.bin .add (Tm 9) (Kz 1)),Om 9 27])))))
def lf156 : LFunc := ⟨36,[],.seq (.region [Oa 4 (.mov (.cst (.p (.int .u64 0))))]) (.seq (.seq (.region [Om 7 1,Oa 8 (.len (Tm 7)),Oa 9 (.mov (Kz 0))]) (lf156_B0)) (.region [Om 28 0,Om 29 1,Oa 30 (.len (Tm 29)),Oa 31 (.iadr 1 (Tm 28) (Tm 30)),Oq 32 1 false 31,Om 33 4,Oa 34 (.bin .add (Tm 32) (Tm 33)),Oa 35 (.iadr 1 (Tm 28) (Tm 30)),Oy 1 35 34]))⟩
theorem low156 : lowFunc Tryz.prog gl0 156 = some lf156 := Go.Abs.lowF (by kernel_rfl)
def lf138_B0 : LCode := .block 0 (.loop (.seq (.region [Oa 15 (.bin .lss (Tm 14) (Tm 13))]) (.seq (.cond (Tm 15) (.skip) (.exit 0)) (.seq (.block 1 (.seq (.region [Om 16 14,Oa 17 (.iadr 1 (Tm 12) (Tm 14)),Oq 18 1 false 17,Om 7 16,Om 8 18]) (.seq (.region [Om 20 8,Om 21 2,Oa 22 (.call 143 [Tm 20,Tm 21]),Om 19 22,Ox 23 19 0,Ox 24 19 1,Om 9 23,Om 10 24]) (.seq (.region [Oa 11 (.mov (.cst (.p (.int .u64 0))))]) (.seq (.region [Om 26 10,Om 27 6,Oa 28 (.calle 144 [Tm 26,Tm 27,.cst (.p (.int .u64 0))]),Om 25 28,Ox 29 25 0,Ox 30 25 1,Om 10 29,Om 11 30]) (.seq (.region [Om 31 9,Om 32 11,Oa 33 (.bin .add (Tm 31) (Tm 32)),Om 9 33]) (.seq (.region [Om 35 0,Om 36 7,Om 37 0,Om 38 7,Oa 39 (.iadr 1 (Tm 37) (Tm 38)),Oq 40 1 false 39,Om 41 10,Oa 42 (.calle 144 [Tm 40,Tm 41,.cst (.p (.int .u64 0))]),Om 34 42,Ox 43 34 0,Ox 44 34 1,Oa 45 (.iadr 1 (Tm 35) (Tm 36)),Oy 1 45 43,Om 11 44]) (.region [Om 46 9,Om 47 11,Oa 48 (.bin .add (Tm 46) (Tm 47)),Om 6 48])))))))) (.region [Oa 49 (.bin .add (Tm 14) (Kz 1)),Om 14 49])))))
def lf138 : LFunc := ⟨58,[],.seq (.region [Oa 6 (.mov (.cst (.p (.int .u64 0))))]) (.seq (.seq (.region [Om 12 1,Oa 13 (.len (Tm 12)),Oa 14 (.mov (Kz 0))]) (lf138_B0)) (.region [Om 50 0,Om 51 1,Oa 52 (.len (Tm 51)),Oa 53 (.iadr 1 (Tm 50) (Tm 52)),Oq 54 1 false 53,Om 55 6,Oa 56 (.bin .add (Tm 54) (Tm 55)),Oa 57 (.iadr 1 (Tm 50) (Tm 52)),Oy 1 57 56]))⟩
theorem low138 : lowFunc Tryz.prog gl0 138 = some lf138 := Go.Abs.lowF (by kernel_rfl)
def lf139_B0 : LCode := .block 0 (.loop (.seq (.seq (.region [Om 3 0,Oa 4 (.len (Tm 3)),Oa 5 (.bin .gtr (Tm 4) (Kz 0)),Om 6 5,Oj 7 6 0,Oj 8 6 0,Oc 9 6 (.len (Tm 8)),Oc 10 6 (.bin .sub (Tm 9) (Kz 1)),Oc 11 6 (.iadr 1 (Tm 7) (Tm 10)),Oc 12 6 (.load 1 false (Tm 11)),Oc 13 6 (.bin .eql (Tm 12) (.cst (.p (.int .u64 0)))),Ot 14 6 13]) (.cond (Tm 14) (.skip) (.exit 0))) (.block 1 (.region [Om 15 0,Om 16 0,Oa 17 (.len (Tm 16)),Oa 18 (.bin .sub (Tm 17) (Kz 1)),Oa 19 (.slSl 1 (Tm 15) none (some (Tm 18)) none),Om 0 19]))))
def lf139 : LFunc := ⟨24,[.slot 2],.seq (.region [Oa 2 (.mov (.cst (.tight [])))]) (.seq (lf139_B0) (.seq (.seq (.region [Om 20 0,Oa 21 (.len (Tm 20)),Oa 22 (.bin .eql (Tm 21) (Kz 0))]) (.cond (Tm 22) (.seq (.region [Oa 2 (.mov (.cst (.tight [])))]) (.ret)) (.skip))) (.seq (.region [Om 23 0,Om 2 23]) (.ret))))⟩
theorem low139 : lowFunc Tryz.prog gl0 139 = some lf139 := Go.Abs.lowF (by kernel_rfl)
def lf117 : LFunc := ⟨8,[.slot 2],.seq (.region [Oa 2 (.mov (.cst (.tight [])))]) (.seq (.seq (.region [Om 3 0,Oa 4 (.eqS false (Tm 3) (.cst (.tight [])))]) (.cond (Tm 4) (.seq (.region [Oa 2 (.mov (.cst (.tight [])))]) (.ret)) (.skip))) (.seq (.region [Oa 5 (.buildSl 1 147 (.p (.int .u64 0)) 0 []),Om 6 0,Oa 7 (.app 1 8 147 (Tm 5) (Tm 6)),Om 2 7]) (.ret)))⟩
theorem low117 : lowFunc Tryz.prog gl0 117 = some lf117 := Go.Abs.lowF (by kernel_rfl)
end Go.Proofs.YtgbjjikaenlkmaaGreat
