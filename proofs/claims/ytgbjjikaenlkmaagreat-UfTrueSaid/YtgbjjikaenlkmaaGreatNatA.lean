/-
  Natural numbers as rows of limbs. The lowered code of the functions of nat and bits, each equal to what the program's form lowers to. What the order, sums, differences and products of rows of limbs compute, for at most 100000 limbs. What the functions of bits, shifts and short division compute, for at most 100000 limbs. No conditions beyond the lemmas' own hypotheses.
-/
import Derived.Lib.ItoaNum
import Derived.Test.YtgbjjikaenlkmaaGreatAbsThree
import Derived.Laws.Externs
import Derived.IntWalk
import Derived.Test.YtgbjjikaenlkmaaGreatAbsTwo
import Derived.Test.YtgbjjikaenlkmaaGreatProg
import Derived.KernelRfl
import Derived.Lib.Mul64
import Derived.Shelf.Strconv.Itoa0
import Derived.Shelf.Strconv.Itoa1
import Derived.Shelf.LaysM
import Derived.Shelf.Strconv.Itoa2
import Derived.Shelf.Strconv.Itoa3
import Derived.Lib.Walk
import Derived.Lib.ItoaMem
import Derived.WalkKit
import Derived.BigCall
import Derived.BigGuard
import Derived.RangeFuncBox
import Derived.Shelf.Abstract
import Derived.OwnWalkIn
import Derived.TacticsInMore
import Derived.LoopNIn
import Derived.LoopIn
set_option linter.unusedSimpArgs false
set_option linter.unnecessarySimpa false
set_option linter.unusedVariables false
set_option linter.constructorNameAsVariable false

namespace Go.Limbs
def B : Nat := 18446744073709551616
theorem qf : 0 < B := by decide
theorem tN : 1 < B := by decide
def val : List Nat → Nat
 | [] => 0
 | x :: r => x + B * val r
def Wf (l : List Nat) : Prop := ∀ x ∈ l, x < B
def zc (n : Nat) : List Nat := if _h : n = 0 then [] else n % B :: zc (n / B)
termination_by n
decreasing_by exact Nat.div_lt_self (by omega) tN
def fix : Nat → Nat → List Nat
 | 0, _ => []
 | k + 1, n => n % B :: fix k (n / B)
def Canon (l : List Nat) : Prop := Wf l ∧ l.getLast? ≠ some 0
theorem zy : zc 0 = [] := by rw [zc]; simp
theorem uf {n : Nat} (h : n ≠ 0) : zc n = n % B :: zc (n / B) := by rw [zc]; simp [h]
theorem kG {n : Nat} (h : n ≠ 0) (h2 : n < B) : zc n = [n] := by
 rw [uf h, Nat.mod_eq_of_lt h2, Nat.div_eq_of_lt h2, zy]
theorem Wf.nil : Wf [] := fun x h => by simp at h
theorem Wf.cons {x : Nat} {l : List Nat} (h : x < B) (r : Wf l) : Wf (x :: l) := fun y hy => by
 rcases List.mem_cons.1 hy with rfl | h1
 ·exact h
 ·exact r y h1
theorem Wf.head {x : Nat} {l : List Nat} (h : Wf (x :: l)) : x < B := h x (by simp)
theorem Wf.tail {x : Nat} {l : List Nat} (h : Wf (x :: l)) : Wf l := fun y hy => h y (by simp [hy])
theorem Wf.append {a b : List Nat} (h : Wf a) (r : Wf b) : Wf (a ++ b) := fun x hx => by
 rcases List.mem_append.1 hx with h1 | h1
 ·exact h x h1
 ·exact r x h1
theorem Wf.left {a b : List Nat} (h : Wf (a ++ b)) : Wf a := fun x hx => h x (by simp [hx])
theorem Wf.right {a b : List Nat} (h : Wf (a ++ b)) : Wf b := fun x hx => h x (by simp [hx])
theorem Wf.take {a : List Nat} (h : Wf a) (n : Nat) : Wf (a.take n) := fun x hx => h x (List.mem_of_mem_take hx)
theorem Wf.drop {a : List Nat} (h : Wf a) (n : Nat) : Wf (a.drop n) := fun x hx => h x (List.mem_of_mem_drop hx)
theorem Wf.get {a : List Nat} (h : Wf a) {i x : Nat} (hx : a[i]? = some x) : x < B := h x (List.mem_of_getElem? hx)
theorem Wf.zeros (n : Nat) : Wf (List.replicate n 0) := fun x hx => by
 rw [List.mem_replicate] at hx
 rw [hx.2]; exact qf
theorem Wf.set {a : List Nat} (h : Wf a) (i : Nat) {x : Nat} (hx : x < B) : Wf (a.set i x) := fun y hy => by
 rcases List.mem_or_eq_of_mem_set hy with h1 | h1
 ·exact h y h1
 ·subst h1; exact hx
theorem qg : val [] = 0 := rfl
theorem q9 (x : Nat) (r : List Nat) : val (x :: r) = x + B * val r := rfl
theorem val_append : ∀ (a b : List Nat), val (a ++ b) = val a + B ^ a.length * val b
 | [], b => by simp [val]
 | x :: r, b => by
  rw [List.cons_append, q9, val_append r b, q9, List.length_cons, Nat.pow_succ]
  grind
theorem uh (a : List Nat) (x : Nat) : val (a ++ [x]) = val a + B ^ a.length * x := by rw [val_append]; simp [val]
theorem kd : ∀ n : Nat, val (List.replicate n 0) = 0
 | 0 => rfl
 | n + 1 => by rw [List.replicate_succ, q9, kd n]; simp
theorem val_pad (a : List Nat) (n : Nat) : val (a ++ List.replicate n 0) = val a := by rw [val_append, kd]; simp
theorem ui : ∀ {a : List Nat}, Wf a → val a < B ^ a.length
 | [], _ => by simp [val]
 | x :: r, h => by
  have h1 := h.head
  have h2 := ui h.tail
  rw [q9, List.length_cons, Nat.pow_succ]
  have h3 : B * (val r + 1) ≤ B * B ^ r.length := Nat.mul_le_mul_left _ h2
  rw [Nat.mul_add] at h3
  rw [Nat.mul_comm (B ^ r.length)]
  omega
theorem vQ (n : Nat) : 0 < B ^ n := Nat.pow_pos qf
theorem zC : ∀ n : Nat, Wf (zc n) := by
 intro n
 induction n using Nat.strongRecOn with
 | _ n ih =>
  by_cases h : n = 0
  ·subst h; rw [zy]; exact Wf.nil
  ·rw [uf h]
   exact Wf.cons (Nat.mod_lt _ qf) (ih _ (Nat.div_lt_self (by omega) tN))
theorem zw : ∀ n : Nat, val (zc n) = n := by
 intro n
 induction n using Nat.strongRecOn with
 | _ n ih =>
  by_cases h : n = 0
  ·subst h; rw [zy]; rfl
  ·rw [uf h, q9, ih _ (Nat.div_lt_self (by omega) tN)]
   exact Nat.mod_add_div n B
theorem jW {n : Nat} : zc n = [] ↔ n = 0 := ⟨fun h => by rw [← zw n, h]; rfl, fun h => by rw [h, zy]⟩
theorem Canon.tail {x : Nat} {l : List Nat} (h : Canon (x :: l)) : Canon l := by
 refine ⟨h.1.tail, fun e => h.2 ?_⟩
 rw [List.getLast?_cons, e]; rfl
theorem mY : ∀ {a : List Nat}, Canon a → zc (val a) = a
 | [], _ => by rw [qg, zy]
 | x :: r, h => by
  have hx := h.1.head
  have ih := mY h.tail
  have hB := qf
  rw [q9]
  by_cases hz : x + B * val r = 0
  ·have hr : val r = 0 := by
    have h3 : B * val r = 0 := by omega
    rcases Nat.mul_eq_zero.1 h3 with h4 | h4
    ·omega
    ·exact h4
   have hx0 : x = 0 := by omega
   have hr2 : r = [] := by rw [← ih, hr, zy]
   subst hr2 hx0
   exact absurd rfl h.2
  ·rw [uf hz, Nat.add_mul_mod_self_left, Nat.mod_eq_of_lt hx, Nat.add_mul_div_left _ _ hB, Nat.div_eq_of_lt hx, Nat.zero_add, ih]
theorem cg (n : Nat) : Canon (zc n) := by
 refine ⟨zC n, ?_⟩
 induction n using Nat.strongRecOn with
 | _ n ih =>
  by_cases h : n = 0
  ·subst h; rw [zy]; simp
  ·rw [uf h, List.getLast?_cons]
   have hi := ih _ (Nat.div_lt_self (Nat.pos_of_ne_zero h) tN)
   intro e
   cases hl : (zc (n / B)).getLast? with
   | some y =>
    rw [hl] at e hi
    exact hi e
   | none =>
    rw [hl] at e
    have h1 : zc (n / B) = [] := List.getLast?_eq_none_iff.1 hl
    have h2 := jW.1 h1
    have h3 : n % B = 0 := by simpa using e
    have h4 := Nat.mod_add_div n B
    rw [h2, h3] at h4
    omega
def len (n : Nat) : Nat := (zc n).length
theorem vt (n : Nat) : n < B ^ len n := by
 have := ui (zC n)
 rwa [zw] at this
theorem dP {n k : Nat} (h : n < B ^ k) : len n ≤ k := by
 unfold len
 induction k generalizing n with
 | zero =>
  have : n = 0 := by simpa using h
  subst this
  simp [zy]
 | succ k ih =>
  by_cases hn : n = 0
  ·subst hn; simp [zy]
  ·rw [uf hn]
   have h2 : n / B < B ^ k := by
    rw [Nat.div_lt_iff_lt_mul qf, ← Nat.pow_succ]; exact h
   have := ih h2
   simp only [List.length_cons]
   omega
theorem jZ {m n : Nat} (h : m ≤ n) : B ^ m ≤ B ^ n := Nat.pow_le_pow_right qf h
theorem dO {n k : Nat} : len n ≤ k ↔ n < B ^ k := ⟨fun h => Nat.lt_of_lt_of_le (vt n) (jZ h), dP⟩
theorem dL {n k : Nat} : k < len n ↔ B ^ k ≤ n := by
 have := @dO n k
 omega
theorem len_ge {n : Nat} (h : n ≠ 0) : B ^ (len n - 1) ≤ n := by
 have h1 : len n ≠ 0 := fun e => h (jW.1 (List.length_eq_zero_iff.1 e))
 exact dL.1 (by omega)
theorem qq {m n : Nat} (h : m ≤ n) : len m ≤ len n := dO.2 (Nat.lt_of_le_of_lt h (vt n))
theorem qd {n : Nat} : len n = 0 ↔ n = 0 := by rw [len, List.length_eq_zero_iff, jW]
theorem gR : len 0 = 0 := qd.2 rfl
theorem cM {m n : Nat} (h : len m < len n) : m < n := by
 have h1 := vt m
 have h2 := dL.1 h
 omega
theorem len_add (m n : Nat) : len (m + n) ≤ max (len m) (len n) + 1 := by
 refine dP ?_
 have h1 := vt m
 have h2 := vt n
 have h3 := jZ (Nat.le_max_left (len m) (len n))
 have h4 := jZ (Nat.le_max_right (len m) (len n))
 rw [Nat.pow_succ]
 have h5 : B ^ max (len m) (len n) * 2 ≤ B ^ max (len m) (len n) * B := Nat.mul_le_mul_left _ tN
 omega
theorem ua (m n : Nat) : len (m * n) ≤ len m + len n := by
 refine dP ?_
 rw [Nat.pow_add]
 exact Nat.mul_lt_mul'' (vt m) (vt n)
theorem top_mod {T P m : Nat} (h : T < P) : (T + P * m) % (P * B) = T + P * (m % B) := by
 rw [Nat.mod_mul, Nat.add_mul_mod_self_left, Nat.mod_eq_of_lt h, Nat.add_mul_div_left _ _ (by omega), Nat.div_eq_of_lt h, Nat.zero_add]
theorem qz : ∀ (k n : Nat), (fix k n).length = k
 | 0, _ => rfl
 | k + 1, n => by simp [fix, qz k]
theorem yE : ∀ (k n : Nat), Wf (fix k n)
 | 0, _ => Wf.nil
 | k + 1, n => Wf.cons (Nat.mod_lt _ qf) (yE k _)
theorem oC : ∀ (a : List Nat) (k : Nat), Wf a → a.length = k → fix k (val a) = a
 | [], k, _, h => by subst h; rfl
 | x :: r, k, h, hl => by
  subst hl
  have hx := h.head
  simp only [List.length_cons, fix, q9]
  rw [Nat.add_mul_mod_self_left, Nat.mod_eq_of_lt hx, Nat.add_mul_div_left _ _ qf, Nat.div_eq_of_lt hx, Nat.zero_add, oC r _ h.tail rfl]
theorem yH : ∀ (k n : Nat), val (fix k n) = n % B ^ k
 | 0, n => by simp [fix, val, Nat.mod_one]
 | k + 1, n => by
  rw [fix, q9, yH k, Nat.pow_succ, Nat.mul_comm (B ^ k) B, Nat.mod_mul]
theorem yG {k n : Nat} (h : n < B ^ k) : val (fix k n) = n := by rw [yH, Nat.mod_eq_of_lt h]
theorem ga {a b : List Nat} (ha : Wf a) (hb : Wf b) (hl : a.length = b.length) (h : val a = val b) : a = b := by
 have h1 := oC a b.length ha hl
 rw [h] at h1
 exact h1.symm.trans (oC b b.length hb rfl)
theorem fix_mod (k n : Nat) : fix k (n % B ^ k) = fix k n := ga (yE _ _) (yE _ _) (by rw [qz, qz]) (by rw [yH, yH, Nat.mod_mod])
theorem limbs_pad (n k : Nat) : val (zc n ++ List.replicate k 0) = n := by rw [val_pad, zw]
theorem fix_eq {k n : Nat} (h : len n ≤ k) : fix k n = zc n ++ List.replicate (k - len n) 0 := by
 refine ga (yE _ _) ((zC n).append (Wf.zeros _)) ?_ ?_
 ·rw [qz, List.length_append, List.length_replicate]
  have : (zc n).length = len n := rfl
  omega
 ·rw [limbs_pad, yG (dO.1 h)]
theorem ye (a : List Nat) {i : Nat} (h : i ≤ a.length) : val a = val (a.take i) + B ^ i * val (a.drop i) := by
 have h1 := val_append (a.take i) (a.drop i)
 rw [List.take_append_drop, List.length_take, Nat.min_eq_left h] at h1
 exact h1
theorem je {a : List Nat} {i x : Nat} (h : a[i]? = some x) : a.drop i = x :: a.drop (i + 1) := by
 obtain ⟨h1, rfl⟩ := List.getElem?_eq_some_iff.1 h
 exact List.drop_eq_getElem_cons h1
theorem gg {a : List Nat} {i x : Nat} (h : a[i]? = some x) : a.take (i + 1) = a.take i ++ [x] := by
 rw [List.take_add_one, h]; rfl
theorem zA {a : List Nat} {i x : Nat} (h : a[i]? = some x) : val (a.take (i + 1)) = val (a.take i) + B ^ i * x := by
 have hl : i ≤ a.length := Nat.le_of_lt (List.getElem?_eq_some_iff.1 h).1
 rw [gg h, uh, List.length_take, Nat.min_eq_left hl]
theorem mG {a : List Nat} {i : Nat} (h : a[i]? = none) : a.take (i + 1) = a.take i := by
 have := List.getElem?_eq_none_iff.1 h
 rw [List.take_of_length_le (by omega), List.take_of_length_le this]
theorem vC {a : List Nat} {i x : Nat} (h : a[i]? = some x) : val (a.drop i) = x + B * val (a.drop (i + 1)) := by rw [je h, q9]
theorem jy {a : List Nat} (h : Wf a) (i : Nat) : val (a.take i) < B ^ i :=
 Nat.lt_of_lt_of_le (ui (h.take i)) (jZ (List.length_take_le i a))
theorem wP {a : List Nat} (h : Wf a) (i : Nat) : val (a.drop i) = val a / B ^ i := by
 by_cases hi : i ≤ a.length
 ·rw [ye a hi, Nat.add_mul_div_left _ _ (vQ i), Nat.div_eq_of_lt (jy h i), Nat.zero_add]
 ·rw [List.drop_eq_nil_of_le (by omega), qg, Nat.div_eq_of_lt (Nat.lt_of_lt_of_le (ui h) (jZ (by omega)))]
theorem ez {a : List Nat} (h : Wf a) (i : Nat) : val (a.take i) = val a % B ^ i := by
 by_cases hi : i ≤ a.length
 ·rw [ye a hi, Nat.add_mul_mod_self_left, Nat.mod_eq_of_lt (jy h i)]
 ·rw [List.take_of_length_le (by omega), Nat.mod_eq_of_lt (Nat.lt_of_lt_of_le (ui h) (jZ (by omega)))]
theorem take_set (l : List Nat) (i s : Nat) : (l.set i s).take i = l.take i := by
 rw [List.take_set, List.set_eq_of_length_le (by simp; omega)]
theorem z3 {l : List Nat} {i : Nat} (h : i < l.length) (s : Nat) : val ((l.set i s).take (i + 1)) = val (l.take i) + B ^ i * s := by
 rw [zA (a := l.set i s) (x := s) (by simp [h]), take_set]
theorem t6 {a : List Nat} {n : Nat} (h0 : a[n]? = some 0) : val (a.take (n + 1)) = val (a.take n) := by rw [zA h0]; simp
theorem t7 {a : List Nat} {n : Nat} (hw : Wf a) (hv : val (a.take n) = val a) (h0 : n = 0 ∨ ∃ x, a[n - 1]? = some x ∧ x ≠ 0) : a.take n = zc (val a) := by
 rw [← hv]
 refine (mY ⟨hw.take n, ?_⟩).symm
 rcases h0 with rfl | ⟨x, hx, hx0⟩
 ·simp
 ·intro e
  by_cases hn : n = 0
  ·subst hn; simp at e
  ·have h1 : n - 1 + 1 = n := by omega
   have h2 := gg hx
   rw [h1] at h2
   rw [h2] at e
   simp at e
   exact hx0 e
def qm (m n : Nat) : Int := if m < n then -1 else if m = n then 0 else 1
theorem jY {m n : Nat} (h : m < n) : qm m n = -1 := by simp [qm, h]
theorem cQ {m n : Nat} (h : n < m) : qm m n = 1 := by
 have h1 : ¬ m < n := by omega
 have h2 : m ≠ n := by omega
 simp [qm, h1, h2]
theorem md {m n : Nat} : qm m n < 0 ↔ m < n := by
 unfold qm
 split
 ·simp [*]
 ·split <;> simp [*]
theorem cmpI_eq (m : Nat) : qm m m = 0 := by simp [qm]
theorem nR {a b : List Nat} {i x y : Nat} (ha : Wf a) (hd : a.drop (i + 1) = b.drop (i + 1)) (hx : a[i]? = some x) (hy : b[i]? = some y) (h : x < y) : val a < val b := by
 have la : i ≤ a.length := Nat.le_of_lt (List.getElem?_eq_some_iff.1 hx).1
 have lb : i ≤ b.length := Nat.le_of_lt (List.getElem?_eq_some_iff.1 hy).1
 rw [ye a la, ye b lb, vC hx, vC hy, hd]
 have h1 := jy ha i
 have h2 : B ^ i * (x + B * val (b.drop (i + 1)) + 1) ≤ B ^ i * (y + B * val (b.drop (i + 1))) := Nat.mul_le_mul_left _ (by omega)
 rw [Nat.mul_add, Nat.mul_one] at h2
 omega
def wo (x y c : Nat) : Nat := (x + y + c) % B
def jx (x y c : Nat) : Nat := (x + y + c) / B
theorem mq (x y c : Nat) : wo x y c < B := Nat.mod_lt _ qf
theorem add_eq (x y c : Nat) : wo x y c + B * jx x y c = x + y + c := Nat.mod_add_div _ _
theorem mo {p u v P x y c : Nat} (h : p + P * c = u + v) : p + P * wo x y c + P * B * jx x y c = (u + P * x) + (v + P * y) := by
 have e := add_eq x y c
 generalize wo x y c = m at *
 generalize jx x y c = d at *
 grind
theorem cR {x y c : Nat} (hx : x < B) (hy : y < B) (hc : c ≤ 1) : jx x y c ≤ 1 := by
 have : jx x y c < 2 := by unfold jx; rw [Nat.div_lt_iff_lt_mul qf]; omega
 omega
def uJ (x y c : Nat) : Nat := (x + B - y - c) % B
def bz (x y c : Nat) : Nat := if x < y + c then 1 else 0
theorem cy (x y c : Nat) : uJ x y c < B := Nat.mod_lt _ qf
theorem gh (x y c : Nat) : bz x y c ≤ 1 := by unfold bz; split <;> omega
theorem lB {x y c : Nat} (hx : x < B) (hy : y < B) (hc : c ≤ 1) : uJ x y c + (y + c) = x + B * bz x y c := by
 unfold uJ bz
 by_cases h : x < y + c
 ·rw [if_pos h, Nat.mod_eq_of_lt (by omega)]; omega
 ·rw [if_neg h, show x + B - y - c = x - y - c + B by omega, Nat.add_mod_right, Nat.mod_eq_of_lt (by omega)]; omega
theorem rC {p u v P x y c : Nat} (hx : x < B) (hy : y < B) (hc : c ≤ 1) (h : p + v = u + P * c) :
  p + P * uJ x y c + (v + P * y) = (u + P * x) + P * B * bz x y c := by
 have e := lB hx hy hc
 generalize uJ x y c = m at *
 generalize bz x y c = d at *
 grind
theorem mac_lt {x k c o : Nat} (hx : x < B) (hk : k < B) (hc : c < B) (ho : o < B) : x * k + c + o < B * B := by
 have h1 : x * k ≤ (B - 1) * (B - 1) := Nat.mul_le_mul (by omega) (by omega)
 have h2 : (B - 1) * (B - 1) + (B - 1) + (B - 1) < B * B := by decide
 omega
theorem aS {x k c o : Nat} : x * k / B + (x * k % B + c) / B + (o + (x * k % B + c) % B) / B = (x * k + c + o) / B := by
 have e := Nat.mod_add_div (x * k) B
 have e1 := Nat.mod_add_div (x * k % B + c) B
 have e2 := Nat.mod_add_div (o + (x * k % B + c) % B) B
 have h : x * k + c + o = (o + (x * k % B + c) % B) % B + B * (x * k / B + (x * k % B + c) / B + (o + (x * k % B + c) % B) / B) := by
  generalize x * k / B = a at *
  generalize (x * k % B + c) / B = b at *
  generalize (o + (x * k % B + c) % B) / B = d at *
  rw [Nat.mul_add, Nat.mul_add]
  omega
 rw [h, Nat.add_mul_div_left _ _ qf, Nat.div_eq_of_lt (Nat.mod_lt _ qf), Nat.zero_add]
theorem mac_low {x k c o : Nat} : (o + (x * k % B + c) % B) % B = (x * k + c + o) % B := by
 rw [Nat.add_mod_mod, Nat.add_comm o, Nat.add_assoc, Nat.mod_add_mod, Nat.add_assoc]
theorem uD {x k c o : Nat} (hx : x < B) (hk : k < B) (hc : c < B) (ho : o < B) : (x * k + c + o) / B < B := by
 rw [Nat.div_lt_iff_lt_mul qf]; exact mac_lt hx hk hc ho
theorem mac_high' {x k c o : Nat} : x * k / B + (o + x * k % B) / B + ((o + x * k % B) % B + c) / B = (x * k + c + o) / B := by
 have e := Nat.mod_add_div (x * k) B
 have e1 := Nat.mod_add_div (o + x * k % B) B
 have e2 := Nat.mod_add_div ((o + x * k % B) % B + c) B
 have h : x * k + c + o = ((o + x * k % B) % B + c) % B + B * (x * k / B + (o + x * k % B) / B + ((o + x * k % B) % B + c) / B) := by
  generalize x * k / B = a at *
  generalize (o + x * k % B) / B = b at *
  generalize ((o + x * k % B) % B + c) / B = d at *
  rw [Nat.mul_add, Nat.mul_add]
  omega
 rw [h, Nat.add_mul_div_left _ _ qf, Nat.div_eq_of_lt (Nat.mod_lt _ qf), Nat.zero_add]
theorem mac_low' {x k c o : Nat} : ((o + x * k % B) % B + c) % B = (x * k + c + o) % B := by
 rw [Nat.mod_add_mod, Nat.add_comm o, Nat.add_assoc, Nat.mod_add_mod, Nat.add_assoc, Nat.add_comm o]
theorem mac_step {p s v P x k c o : Nat} (h : p + P * c = s + v * k) : p + P * ((x * k + c + o) % B) + P * B * ((x * k + c + o) / B) = (s + P * o) + (v + P * x) * k := by
 have e := Nat.mod_add_div (x * k + c + o) B
 generalize (x * k + c + o) % B = m at *
 generalize (x * k + c + o) / B = d at *
 grind
theorem less_high {y k c : Nat} : y * k / B + (y * k % B + c) / B = (y * k + c) / B := by
 have := @aS y k c 0
 rw [Nat.zero_add, Nat.add_zero, Nat.div_eq_of_lt (Nat.mod_lt _ qf), Nat.add_zero] at this
 exact this
theorem less_low {y k c : Nat} : (y * k % B + c) % B = (y * k + c) % B := Nat.mod_add_mod _ _ _
theorem less_step {p x b P y k c w o : Nat} (ho : o < B) (hw : w ≤ 1) (h : p + b * k = x + P * (c + w)) :
  p + P * uJ o ((y * k + c) % B) w + (b + P * y) * k = (x + P * o) + P * B * ((y * k + c) / B + bz o ((y * k + c) % B) w) := by
 have e := Nat.mod_add_div (y * k + c) B
 have e2 := lB ho (Nat.mod_lt (y * k + c) qf) hw
 generalize (y * k + c) % B = m at *
 generalize (y * k + c) / B = d at *
 generalize uJ o m w = sd at *
 generalize bz o m w = sc at *
 grind
theorem bO : (2 : Nat) ^ 64 = B := by decide
theorem ue {s : Nat} (h : s ≤ 64) : 2 ^ s * 2 ^ (64 - s) = B := by rw [← Nat.pow_add, show s + (64 - s) = 64 by omega, bO]
theorem bw (w : Nat) : B ^ w = 2 ^ (64 * w) := by rw [← bO, ← Nat.pow_mul]
theorem fw {x s : Nat} (h : s ≤ 64) : x * 2 ^ s % B = x % 2 ^ (64 - s) * 2 ^ s := by
 rw [← ue h, Nat.mul_comm (2 ^ s) (2 ^ (64 - s)), Nat.mul_mod_mul_right]
theorem rJ {x s : Nat} (h : s ≤ 64) : x * 2 ^ s / B = x / 2 ^ (64 - s) := by
 rw [← ue h, Nat.mul_comm (2 ^ s) (2 ^ (64 - s)), Nat.mul_div_mul_right _ _ (Nat.two_pow_pos s)]
theorem nH {x s : Nat} (hx : x < B) : x * 2 ^ s / B < 2 ^ s := by
 rw [Nat.div_lt_iff_lt_mul qf, Nat.mul_comm]; exact Nat.mul_lt_mul_of_pos_left hx (Nat.two_pow_pos s)
theorem zab {h y s : Nat} (hh : h < 2 ^ s) : h ||| y * 2 ^ s = h + y * 2 ^ s := by
 rw [Nat.or_comm, Nat.add_comm, ← Nat.shiftLeft_eq, Nat.shiftLeft_add_eq_or_of_lt hh]
theorem zaa {h x s : Nat} (hs : s ≤ 64) (hh : h < 2 ^ s) : h ||| x * 2 ^ s % B = h + x * 2 ^ s % B := by rw [fw hs, zab hh]
theorem dw {h x s : Nat} (hs : s ≤ 64) (hh : h < 2 ^ s) : h + x * 2 ^ s % B < B := by
 rw [fw hs]
 have h1 : (x % 2 ^ (64 - s) + 1) * 2 ^ s ≤ 2 ^ (64 - s) * 2 ^ s := Nat.mul_le_mul_right _ (Nat.mod_lt _ (Nat.two_pow_pos _))
 rw [Nat.mul_comm (2 ^ (64 - s)), ue hs, Nat.add_mul, Nat.one_mul] at h1
 omega
theorem eK {p u P Q x s h N : Nat} (e : p + P * h = u * N) (hP : P * 2 ^ s = N * Q) :
  p + P * (h + x * 2 ^ s % B) + P * B * (x * 2 ^ s / B) = (u + Q * x) * N := by
 have e1 := Nat.mod_add_div (x * 2 ^ s) B
 generalize x * 2 ^ s % B = m at *
 generalize x * 2 ^ s / B = d at *
 grind
theorem shr_limb {x y z s : Nat} (hs : s ≤ 64) (hx : x < B) : (x + B * (y + B * z)) / 2 ^ s % B = x / 2 ^ s + y * 2 ^ (64 - s) % B := by
 have h1 := ue hs
 have h2 : B * (y + B * z) = 2 ^ s * (2 ^ (64 - s) * (y + B * z)) := by rw [← Nat.mul_assoc, h1]
 rw [h2, Nat.add_mul_div_left _ _ (Nat.two_pow_pos s), Nat.mul_add, ← Nat.add_assoc, ← Nat.mul_assoc, Nat.mul_comm (2 ^ (64 - s)) B, Nat.mul_assoc, Nat.add_mul_mod_self_left, Nat.mul_comm _ y]
 have h3 : x / 2 ^ s < 2 ^ (64 - s) := by rw [Nat.div_lt_iff_lt_mul (Nat.two_pow_pos s), Nat.mul_comm, h1]; exact hx
 have h4 := @fw y (64 - s) (by omega)
 have h5 : x / 2 ^ s + y * 2 ^ (64 - s) % B < B := dw (by omega) h3
 rw [Nat.add_mod, Nat.mod_eq_of_lt (show x / 2 ^ s < B by omega), Nat.mod_eq_of_lt h5]
theorem shr_or {x y s : Nat} (hs : s ≤ 64) (hx : x < B) : x / 2 ^ s ||| y * 2 ^ (64 - s) % B = x / 2 ^ s + y * 2 ^ (64 - s) % B := by
 have h1 := ue hs
 exact zaa (by omega) (by rw [Nat.div_lt_iff_lt_mul (Nat.two_pow_pos s), Nat.mul_comm, h1]; exact hx)
theorem aN {v i l : Nat} (h : v / B ^ i % B = l) : v % B ^ (i + 1) = v % B ^ i + B ^ i * l := by
 rw [Nat.pow_succ, Nat.mod_mul, h]
theorem div_step {a q r x k : Nat} (h : a = k * q + r) : x + B * a = k * ((r * B + x) / k + B * q) + (r * B + x) % k := by
 have e := Nat.mod_add_div (r * B + x) k
 generalize (r * B + x) / k = m at *
 generalize (r * B + x) % k = d at *
 grind
theorem div_lt {r x k : Nat} (hr : r < k) (hx : x < B) : (r * B + x) / k < B := by
 rw [Nat.div_lt_iff_lt_mul (by omega)]
 have : (r + 1) * B ≤ k * B := Nat.mul_le_mul_right _ hr
 rw [Nat.add_mul, Nat.one_mul, Nat.mul_comm k] at this
 omega
theorem hZ {a q r k : Nat} (h : a = k * q + r) (hr : r < k) : q = a / k ∧ r = a % k := by
 subst h
 rw [Nat.mul_add_div (by omega), Nat.div_eq_of_lt hr, Nat.mul_add_mod, Nat.mod_eq_of_lt hr]
 exact ⟨by omega, rfl⟩
def vJ (d1 d2 next : Nat) : Nat → Nat → Nat
 | 0, _ => 0
 | q + 1, r => if (q + 1) * d2 ≤ r * B + next then q + 1 else if B ≤ r + d1 then q else vJ d1 d2 next q (r + d1)
def kO (high low next d1 d2 : Nat) : Nat :=
 if d1 ≤ high then B - 1 else vJ d1 d2 next ((high * B + low) / d1) ((high * B + low) % d1)
theorem xP (d1 d2 next : Nat) : ∀ (q r : Nat), vJ d1 d2 next q r ≤ q
 | 0, _ => by simp [vJ]
 | q + 1, r => by
  unfold vJ
  have := xP d1 d2 next q (r + d1)
  split
  ·omega
  ·split <;> omega
theorem guessN_lt {high low next d1 d2 : Nat} (hl : low < B) : kO high low next d1 d2 < B := by
 unfold kO
 have hB := qf
 split
 ·omega
 ·rename_i h
  exact Nat.lt_of_le_of_lt (xP _ _ _ _ _) (div_lt (by omega) hl)
theorem guessL_ge {d1 d2 next T Q : Nat} (H : ∀ q, T < q * (d1 * B + d2) → Q < q) (q : Nat) : ∀ r, T = (q * d1 + r) * B + next → Q ≤ q → Q ≤ vJ d1 d2 next q r := by
 induction q with
 | zero => intro r _ h; rw [vJ]; exact h
 | succ q ih =>
  intro r hT h
  rw [vJ]
  split
  ·exact h
  ·rename_i h1
   have h2 : Q < q + 1 := by
    refine H _ ?_
    have e : (q + 1) * (d1 * B + d2) = (q + 1) * d1 * B + (q + 1) * d2 := by rw [Nat.mul_add, Nat.mul_assoc]
    rw [hT, e, Nat.add_mul]
    omega
   split
   ·omega
   ·refine ih (r + d1) ?_ (by omega)
    rw [hT]
    have e : (q + 1) * d1 + r = q * d1 + (r + d1) := by rw [Nat.add_mul, Nat.one_mul]; omega
    rw [e]
theorem guessN_ge {high low next d1 d2 Q : Nat} (hQ : Q < B) (H : ∀ q, (high * B + low) * B + next < q * (d1 * B + d2) → Q < q) (hn : next < B) : Q ≤ kO high low next d1 d2 := by
 unfold kO
 split
 ·omega
 ·rename_i h
  have hd : 0 < d1 := by omega
  refine guessL_ge H _ _ ?_ ?_
  ·rw [Nat.mul_comm _ d1, Nat.div_add_mod]
  ·by_cases hc : Q ≤ (high * B + low) / d1
   ·exact hc
   ·exfalso
    have h1 := H ((high * B + low) / d1 + 1) ?_
    ·omega
    ·have e := Nat.div_add_mod (high * B + low) d1
     have e2 := Nat.mod_lt (high * B + low) hd
     generalize (high * B + low) / d1 = m at *
     generalize (high * B + low) % d1 = u at *
     generalize high * B + low = t at *
     have h2 : t + 1 ≤ d1 * (m + 1) := by rw [Nat.mul_add]; omega
     have h3 := Nat.mul_le_mul_right B h2
     have h4 : (t + 1) * B = t * B + B := by rw [Nat.add_mul, Nat.one_mul]
     have h5 : (m + 1) * (d1 * B + d2) = d1 * (m + 1) * B + (m + 1) * d2 := by rw [Nat.mul_add, ← Nat.mul_assoc, Nat.mul_comm (m + 1) d1]
     omega
theorem guess_quot {X b n high low next d1 d2 : Nat} (hb : 0 < b) (hX : X / b < B) (hx : X / B ^ n = (high * B + low) * B + next) (hbd : b / B ^ n = d1 * B + d2) (hn : next < B) :
  X / b ≤ kO high low next d1 d2 := by
 refine guessN_ge hX (fun q hq => ?_) hn
 rw [← hx, ← hbd] at hq
 rw [Nat.div_lt_iff_lt_mul hb]
 have h1 : X < (X / B ^ n + 1) * B ^ n := by
  have := Nat.lt_div_mul_add (a := X) (b := B ^ n) (vQ n)
  rw [Nat.add_mul, Nat.one_mul]; exact this
 have h2 : (X / B ^ n + 1) * B ^ n ≤ q * (b / B ^ n) * B ^ n := Nat.mul_le_mul_right _ hq
 have h3 : q * (b / B ^ n) * B ^ n ≤ q * b := by
  rw [Nat.mul_assoc]
  exact Nat.mul_le_mul_left _ (Nat.div_mul_le_self b (B ^ n))
 omega
theorem more_over {Y b n k X : Nat} (hb : b < B ^ n) (hX : X < k * b) (hk : k * b ≤ B ^ (n + 1)) (hY : Y = X + B ^ (n + 1) - k * b) :
  (X < (k - 1) * b → (Y + b) % B ^ (n + 1) = X + B ^ (n + 1) - (k - 1) * b ∧ Y / B ^ n ≤ (Y + b) % B ^ (n + 1) / B ^ n) ∧
  (¬ X < (k - 1) * b → (Y + b) % B ^ (n + 1) = X - (k - 1) * b ∧ ¬ Y / B ^ n ≤ (Y + b) % B ^ (n + 1) / B ^ n) := by
 have hk1 : 1 ≤ k := by
  rcases Nat.eq_zero_or_pos k with h | h
  ·subst h; simp at hX
  ·exact h
 have e : k * b = (k - 1) * b + b := by
  have : k = (k - 1) + 1 := by omega
  rw [this, Nat.add_mul, Nat.one_mul]; simp
 have hp : B ^ (n + 1) = B ^ n * B := Nat.pow_succ ..
 have hpos := vQ n
 have hB := tN
 have hbig : B ^ n * 2 ≤ B ^ (n + 1) := by rw [hp]; exact Nat.mul_le_mul_left _ hB
 clear hp
 generalize hm : (k - 1) * b = m at *
 generalize hM : B ^ (n + 1) = M at *
 constructor
 ·intro h
  have h1 : Y + b = X + M - m := by omega
  have h2 : Y + b < M := by omega
  rw [Nat.mod_eq_of_lt h2]
  exact ⟨h1, Nat.div_le_div_right (by omega)⟩
 ·intro h
  have h1 : Y + b = (X - m) + M := by omega
  have h3 : X - m < b := by omega
  rw [h1, Nat.add_mod_right, Nat.mod_eq_of_lt (by omega)]
  refine ⟨rfl, ?_⟩
  rw [Nat.div_eq_of_lt (show X - m < B ^ n by omega)]
  have h4 : 1 ≤ Y / B ^ n := by
   rw [Nat.le_div_iff_mul_le hpos]; omega
  omega
theorem long_step {A R b P q : Nat} (hb : 0 < b) (hP : 0 < P) (h : A = R + b * (P * B) * q) :
  A = (R / P % b * P + R % P) + b * P * (R / P / b + B * q) ∧ R / P % b * P + R % P < b * P := by
 have e1 := Nat.div_add_mod R P
 have e2 := Nat.div_add_mod (R / P) b
 have h1 := Nat.mod_lt (R / P) hb
 have h2 := Nat.mod_lt R hP
 constructor
 ·generalize R / P / b = d at *
  generalize R / P % b = m at *
  generalize R / P = t at *
  generalize R % P = u at *
  grind
 ·have h3 : (R / P % b + 1) * P ≤ b * P := Nat.mul_le_mul_right _ h1
  rw [Nat.add_mul, Nat.one_mul] at h3
  omega
theorem long_lt {R b P : Nat} (h : R < b * (P * B)) (hb : 0 < b) (hP : 0 < P) : R / P / b < B := by
 rw [Nat.div_lt_iff_lt_mul hb, Nat.div_lt_iff_lt_mul hP]
 have : b * (P * B) = B * b * P := by grind
 omega
theorem shift_div (a b s : Nat) : a * 2 ^ s / (b * 2 ^ s) = a / b := Nat.mul_div_mul_right _ _ (Nat.two_pow_pos s)
theorem shift_mod (a b s : Nat) : a * 2 ^ s % (b * 2 ^ s) / 2 ^ s = a % b := by
 rw [Nat.mul_mod_mul_right, Nat.mul_div_cancel _ (Nat.two_pow_pos s)]
theorem bin_step {A r b P q : Nat} (h : A = r + b * (P * 2) * q) (hr : r < b * (P * 2)) :
  (b * P ≤ r → A = (r - b * P) + b * P * (1 + 2 * q) ∧ r - b * P < b * P) ∧ (¬ b * P ≤ r → A = r + b * P * (2 * q) ∧ r < b * P) := by
 have e : b * (P * 2) = b * P * 2 := by grind
 rw [e] at h hr
 generalize b * P = m at *
 constructor
 ·intro h1
  constructor
  ·have h2 : m * (1 + 2 * q) = m + m * 2 * q := by grind
   omega
  ·omega
 ·intro h1
  constructor
  ·have h2 : m * (2 * q) = m * 2 * q := by grind
   omega
  ·omega
def size (n : Nat) : Nat := if n = 0 then 0 else n.log2 + 1
theorem uQ (n : Nat) : n < 2 ^ size n := by
 unfold size
 split
 ·omega
 ·exact Nat.lt_log2_self
theorem size_le {n : Nat} (h : n ≠ 0) : 2 ^ (size n - 1) ≤ n := by
 unfold size
 rw [if_neg h]
 exact Nat.log2_self_le h
theorem t8 : size 0 = 0 := rfl
theorem um {n : Nat} (h : n ≠ 0) : 0 < size n := by unfold size; rw [if_neg h]; omega
theorem wQ {n k : Nat} : size n ≤ k ↔ n < 2 ^ k := by
 constructor
 ·intro h
  exact Nat.lt_of_lt_of_le (uQ n) (Nat.pow_le_pow_right (by omega) h)
 ·intro h
  by_cases hn : n = 0
  ·subst hn; simp [t8]
  ·have h1 := size_le hn
   have h2 : 2 ^ (size n - 1) < 2 ^ k := by omega
   have h3 := (Nat.pow_lt_pow_iff_right (by omega : 1 < 2)).1 h2
   omega
theorem size_eq {n k : Nat} (h1 : 2 ^ k ≤ n) (h2 : n < 2 ^ (k + 1)) : size n = k + 1 := by
 have h3 := wQ.2 h2
 have h4 : ¬ size n ≤ k := fun h => by have := wQ.1 h; omega
 omega
theorem lC {n : Nat} (h : n ≠ 0) (k : Nat) : size (n * 2 ^ k) = size n + k := by
 have h1 := size_le h
 have h2 := uQ n
 have h3 := um h
 have e : size n + k = (size n - 1 + k) + 1 := by omega
 rw [e]
 refine size_eq ?_ ?_
 ·rw [Nat.pow_add]; exact Nat.mul_le_mul_right _ h1
 ·rw [show size n - 1 + k + 1 = size n + k by omega, Nat.pow_add]
  exact Nat.mul_lt_mul_of_pos_right h2 (Nat.two_pow_pos k)
theorem size_mono {m n : Nat} (h : m ≤ n) : size m ≤ size n := wQ.2 (Nat.lt_of_le_of_lt h (uQ n))
theorem rH {pre : List Nat} {x : Nat} (hp : Wf pre) (hx : x ≠ 0) : size (val (pre ++ [x])) = 64 * pre.length + size x := by
 have h1 := ui hp
 rw [uh, bw] at *
 have h2 := size_le hx
 have h3 := uQ x
 have h4 := um hx
 rw [show 64 * pre.length + size x = (64 * pre.length + (size x - 1)) + 1 by omega]
 refine size_eq ?_ ?_
 ·rw [Nat.pow_add]
  have := Nat.mul_le_mul_left (2 ^ (64 * pre.length)) h2
  omega
 ·rw [show 64 * pre.length + (size x - 1) + 1 = 64 * pre.length + size x by omega, Nat.pow_add]
  have := Nat.mul_le_mul_left (2 ^ (64 * pre.length)) (show x + 1 ≤ 2 ^ size x from h3)
  rw [Nat.mul_add, Nat.mul_one] at this
  omega
end Go.Limbs

namespace Go.Limbs
open Go.Lib
end Go.Limbs

namespace Go.Abs
open Go.Limbs
def u64 (n : Nat) : PVal := .int .u64 n
def jb (l : List Nat) : PVal := .lst (l.map u64)
def wD (n : Nat) : PVal := jb (zc n)
def jJ : List PVal → Option (List Nat)
 | [] => some []
 | .int .u64 z :: r => if 0 ≤ z ∧ z.toNat < B then (match jJ r with | some l => some (z.toNat :: l) | none => none) else none
 | _ :: _ => none
theorem zX : ∀ {l : List Nat}, Wf l → jJ (l.map u64) = some l
 | [], _ => rfl
 | x :: r, h => by
  have hx := h.head
  have : (0 : Int) ≤ (x : Int) ∧ (x : Int).toNat < B := by simpa using hx
  simp only [List.map_cons, u64, jJ, if_pos this]
  rw [zX h.tail]
  simp
theorem zI : ∀ {es : List PVal} {l : List Nat}, jJ es = some l → es = l.map u64 ∧ Wf l
 | [], l, h => by simp [jJ] at h; subst h; exact ⟨rfl, Wf.nil⟩
 | x :: r, l, h => by
  unfold jJ at h
  split at h
  ·rename_i e; cases e
  ·rename_i z r' e
   cases e
   split at h
   ·rename_i hz
    cases hd : jJ r with
    | none => rw [hd] at h; cases h
    | some l' =>
     rw [hd] at h
     cases h
     obtain ⟨h1, h2⟩ := zI hd
     obtain ⟨m, rfl⟩ := Int.eq_ofNat_of_zero_le hz.1
     exact ⟨by rw [h1]; simp [u64], Wf.cons hz.2 h2⟩
   ·cases h
  ·cases h
def vM (es : List PVal) : Option Nat := match jJ es with
 | some l => if zc (val l) = l ∧ l.length ≤ 100000 then some (val l) else none
 | none => none
theorem zM {n : Nat} (h : len n ≤ 100000) : vM ((zc n).map u64) = some n := by
 unfold vM
 rw [zX (zC n)]
 have : zc (val (zc n)) = zc n ∧ (zc n).length ≤ 100000 := ⟨by rw [zw], h⟩
 show (if zc (val (zc n)) = zc n ∧ (zc n).length ≤ 100000 then some (val (zc n)) else none) = some n
 rw [if_pos this, zw]
theorem zE {es : List PVal} {n : Nat} (h : vM es = some n) : es = (zc n).map u64 ∧ len n ≤ 100000 := by
 unfold vM at h
 split at h
 ·rename_i l hl
  split at h
  ·rename_i h2
   cases h
   obtain ⟨h3, _⟩ := zI hl
   exact ⟨by rw [h2.1]; exact h3, by unfold len; rw [h2.1]; exact h2.2⟩
  ·cases h
 ·cases h
theorem qI : B = 18446744073709551616 := rfl
theorem bB {n : Nat} (h : n < B) : IntKind.u64.wrap (n : Int) = n := by rw [qI] at h; exact IntWalk.u64_in _ (by omega)
theorem x7 (n : Nat) : IntKind.u64.wrap (n : Int) = ((n % B : Nat) : Int) := by rw [qI, IntKind.wrap_u64]; omega
theorem jj {a b : Nat} (h : a + b < B) : IntKind.u64.wrap ((a : Int) + b) = ((a + b : Nat) : Int) := by rw [← Int.natCast_add]; exact bB h
theorem du (a b : Nat) : IntKind.u64.wrap ((a : Int) + b) = (((a + b) % B : Nat) : Int) := by rw [← Int.natCast_add]; exact x7 _
theorem yC (a b : Nat) : IntKind.u64.wrap ((a : Int) * b) = (((a * b) % B : Nat) : Int) := by rw [← Int.natCast_mul]; exact x7 _
theorem yD {n : Nat} (h : n < 9223372036854775808) : IntKind.i64.wrap (n : Int) = n := IntWalk.i64_in _ (by omega)
theorem kJ (a : Nat) : BitVec.ofInt 64 (a : Int) = BitVec.ofNat 64 a := BitVec.ofInt_natCast 64 a
theorem or_word {a b : Nat} (ha : a < B) (hb : b < B) : (BitVec.ofInt 64 (a : Int) ||| BitVec.ofInt 64 (b : Int)).toNat = a ||| b := by
 rw [kJ, kJ, BitVec.toNat_or, BitVec.toNat_ofNat, BitVec.toNat_ofNat, bO, Nat.mod_eq_of_lt ha, Nat.mod_eq_of_lt hb]
theorem and_word {a b : Nat} (ha : a < B) (hb : b < B) : (BitVec.ofInt 64 (a : Int) &&& BitVec.ofInt 64 (b : Int)).toNat = a &&& b := by
 rw [kJ, kJ, BitVec.toNat_and, BitVec.toNat_ofNat, BitVec.toNat_ofNat, bO, Nat.mod_eq_of_lt ha, Nat.mod_eq_of_lt hb]
theorem or_lt {a b : Nat} (ha : a < B) (hb : b < B) : a ||| b < B := by rw [← bO] at *; exact Nat.or_lt_two_pow ha hb
theorem or_wrap {a b : Nat} (ha : a < B) (hb : b < B) : IntKind.u64.wrap ((BitVec.ofInt 64 (a : Int) ||| BitVec.ofInt 64 (b : Int)).toNat : Int) = ((a ||| b : Nat) : Int) := by
 rw [or_word ha hb]; exact bB (or_lt ha hb)
theorem and_wrap {a b : Nat} (ha : a < B) (hb : b < B) : IntKind.u64.wrap ((BitVec.ofInt 64 (a : Int) &&& BitVec.ofInt 64 (b : Int)).toNat : Int) = ((a &&& b : Nat) : Int) := by
 rw [and_word ha hb]; exact bB (Nat.lt_of_le_of_lt Nat.and_le_left ha)
theorem fdiv_pow (a s : Nat) : (a : Int).fdiv (2 ^ s) = ((a / 2 ^ s : Nat) : Int) := by
 rw [Int.fdiv_eq_ediv_of_nonneg _ (Int.le_of_lt (Int.pow_pos (by omega)))]
 simp
def vY : List PVal → Option PVal
 | [.int .u64 x, .int .u64 y, .int .u64 c] => if 0 ≤ x ∧ 0 ≤ y ∧ 0 ≤ c ∧ c ≤ 1 then some (.tup [u64 (wo x.toNat y.toNat c.toNat), u64 (jx x.toNat y.toNat c.toNat)]) else none
 | _ => none
def uq : List PVal → Option PVal
 | [.int .u64 x, .int .u64 y, .int .u64 c] => if 0 ≤ x ∧ 0 ≤ y ∧ 0 ≤ c ∧ c ≤ 1 then some (.tup [u64 (uJ x.toNat y.toNat c.toNat), u64 (bz x.toNat y.toNat c.toNat)]) else none
 | _ => none
theorem uv {x y c : Nat} (h : c ≤ 1) : vY [.int .u64 x, .int .u64 y, .int .u64 c] = some (.tup [.int .u64 (wo x y c : Nat), .int .u64 (jx x y c : Nat)]) := by
 have : (0 : Int) ≤ x ∧ (0 : Int) ≤ y ∧ (0 : Int) ≤ c ∧ (c : Int) ≤ 1 := by omega
 simp only [vY, if_pos this, Int.toNat_natCast, u64]
theorem jA {x y : Nat} : vY [.int .u64 x, .int .u64 y, .int .u64 0] = some (.tup [.int .u64 (wo x y 0 : Nat), .int .u64 (jx x y 0 : Nat)]) := uv (x := x) (y := y) (c := 0) (by omega)
theorem uo {x y c : Nat} (h : c ≤ 1) : uq [.int .u64 x, .int .u64 y, .int .u64 c] = some (.tup [.int .u64 (uJ x y c : Nat), .int .u64 (bz x y c : Nat)]) := by
 have : (0 : Int) ≤ x ∧ (0 : Int) ≤ y ∧ (0 : Int) ≤ c ∧ (c : Int) ≤ 1 := by omega
 simp only [uq, if_pos this, Int.toNat_natCast, u64]
variable {P : Program} {base : Prot}
theorem add64_ext {f : FuncId} {fn : Func} (hf : P.funcs[f]? = some fn) (h1 : (fn.name == "runtime.NumGoroutine") = false) (h2 : fn.body.isNone = true) (h3 : (Extern.findNext fn).isNone = true)
  (h4 : Extern.find fn = some add64Entry) : ∀ ps x, vY ps = some x → xZ P f ps x := by
 intro ps x h
 unfold vY at h
 split at h
 case h_2 => cases h
 rename_i x y c
 split at h
 case isFalse => cases h
 rename_i hc
 cases h
 refine ⟨fn, _, hf, h1, h2, h3, h4, fun pr w vs hl hr => ?_⟩
 match vs, hl with
 | [a, b, d], _ =>
  have ha := hr 0 _ a rfl rfl
  have hb := hr 1 _ b rfl rfl
  have hd := hr 2 _ d rfl rfl
  cases ha
  cases hb
  cases hd
  refine ⟨_, run_add64 x y c hc.1 hc.2.1 hc.2.2.1 hc.2.2.2 w, .tup _ [_, _] rfl fun j z v h1 h2 => ?_⟩
  obtain ⟨X, rfl⟩ := Int.eq_ofNat_of_zero_le hc.1
  obtain ⟨Y, rfl⟩ := Int.eq_ofNat_of_zero_le hc.2.1
  obtain ⟨C, rfl⟩ := Int.eq_ofNat_of_zero_le hc.2.2.1
  simp only [Int.toNat_natCast] at h1
  have e1 : (wo X Y C : Int) = ((X : Int) + Y + C) % 18446744073709551616 := by unfold wo; rw [qI]; omega
  have e2 : (jx X Y C : Int) = ((X : Int) + Y + C) / 18446744073709551616 := by unfold jx; rw [qI]; omega
  match j, h1, h2 with
  | 0, h1, h2 => simp at h1 h2; subst h1 h2; unfold u64; rw [e1]; exact .int _ _
  | 1, h1, h2 => simp at h1 h2; subst h1 h2; unfold u64; rw [e2]; exact .int _ _
def sub64Entry : Array Value → Sem Value := fun args => do
 let (x, y, b) ← Extern.MathBitsCarry.three "Sub64" args
 pure (Extern.MathBitsCarry.pair ((x + Extern.MathBitsCarry.m64 - y - b) % Extern.MathBitsCarry.m64) (if x < y + b then 1 else 0))
theorem run_sub64 (x y c : Nat) (hc : c ≤ 1) (w : World) :
  (sub64Entry #[.int .u64 x, .int .u64 y, .int .u64 c]).run P w = .ok (.tuple #[.int .u64 (uJ x y c : Nat), .int .u64 (bz x y c : Nat)]) w := by
 have : c = 0 ∨ c = 1 := by omega
 rcases this with rfl | rfl <;> rfl
theorem sub64_ext {f : FuncId} {fn : Func} (hf : P.funcs[f]? = some fn) (h1 : (fn.name == "runtime.NumGoroutine") = false) (h2 : fn.body.isNone = true) (h3 : (Extern.findNext fn).isNone = true)
  (h4 : Extern.find fn = some sub64Entry) : ∀ ps x, uq ps = some x → xZ P f ps x := by
 intro ps x h
 unfold uq at h
 split at h
 case h_2 => cases h
 rename_i x y c
 split at h
 case isFalse => cases h
 rename_i hc
 cases h
 refine ⟨fn, _, hf, h1, h2, h3, h4, fun pr w vs hl hr => ?_⟩
 match vs, hl with
 | [a, b, d], _ =>
  have ha := hr 0 _ a rfl rfl
  have hb := hr 1 _ b rfl rfl
  have hd := hr 2 _ d rfl rfl
  cases ha
  cases hb
  cases hd
  obtain ⟨X, rfl⟩ := Int.eq_ofNat_of_zero_le hc.1
  obtain ⟨Y, rfl⟩ := Int.eq_ofNat_of_zero_le hc.2.1
  obtain ⟨C, rfl⟩ := Int.eq_ofNat_of_zero_le hc.2.2.1
  refine ⟨_, run_sub64 X Y C (by omega) w, .tup _ [_, _] rfl fun j z v h1 h2 => ?_⟩
  simp only [Int.toNat_natCast] at h1
  match j, h1, h2 with
  | 0, h1, h2 => simp at h1 h2; subst h1 h2; exact .int _ _
  | 1, h1, h2 => simp at h1 h2; subst h1 h2; exact .int _ _
end Go.Abs

namespace Go.Proofs.YtgbjjikaenlkmaaGreat
open Go Go.Abs
def gl0 : Nat → AVal := fun _ => .junk
def lf135 : LFunc := ⟨20,[.slot 4],.seq (.region [Oa 4 (.mov (Kz 0))]) (.seq (.region [Om 7 0,Oa 8 (.call 149 [Tm 7]),Om 5 8]) (.seq (.region [Om 9 1,Oa 10 (.call 149 [Tm 9]),Om 6 10]) (.seq (.seq (.region [Om 11 5]) (.cond (Tm 11) (.seq (.seq (.region [Om 12 6]) (.cond (Tm 12) (.seq (.region [Oa 4 (.mov (Kz 0))]) (.ret)) (.skip))) (.seq (.region [Oa 4 (.mov (Kz (-1)))]) (.ret))) (.skip))) (.seq (.seq (.region [Om 13 6]) (.cond (Tm 13) (.seq (.region [Oa 4 (.mov (Kz 1))]) (.ret)) (.skip))) (.seq (.seq (.region [Om 14 0,Om 15 1,Oa 16 (.bin .lss (Tm 14) (Tm 15))]) (.cond (Tm 16) (.seq (.region [Oa 4 (.mov (Kz (-1)))]) (.ret)) (.skip))) (.seq (.seq (.region [Om 17 0,Om 18 1,Oa 19 (.bin .gtr (Tm 17) (Tm 18))]) (.cond (Tm 19) (.seq (.region [Oa 4 (.mov (Kz 1))]) (.ret)) (.skip))) (.seq (.region [Oa 4 (.mov (Kz 0))]) (.ret))))))))⟩
theorem low135 : zf Tryz.prog gl0 135 = some lf135 := Go.Abs.lowF (by kernel_rfl)
def lf136 : LFunc := ⟨20,[.slot 4],.seq (.region [Oa 4 (.mov (Kz 0))]) (.seq (.region [Om 7 0,Oa 8 (.call 150 [Tm 7]),Om 5 8]) (.seq (.region [Om 9 1,Oa 10 (.call 150 [Tm 9]),Om 6 10]) (.seq (.seq (.region [Om 11 5]) (.cond (Tm 11) (.seq (.seq (.region [Om 12 6]) (.cond (Tm 12) (.seq (.region [Oa 4 (.mov (Kz 0))]) (.ret)) (.skip))) (.seq (.region [Oa 4 (.mov (Kz (-1)))]) (.ret))) (.skip))) (.seq (.seq (.region [Om 13 6]) (.cond (Tm 13) (.seq (.region [Oa 4 (.mov (Kz 1))]) (.ret)) (.skip))) (.seq (.seq (.region [Om 14 0,Om 15 1,Oa 16 (.bin .lss (Tm 14) (Tm 15))]) (.cond (Tm 16) (.seq (.region [Oa 4 (.mov (Kz (-1)))]) (.ret)) (.skip))) (.seq (.seq (.region [Om 17 0,Om 18 1,Oa 19 (.bin .gtr (Tm 17) (Tm 18))]) (.cond (Tm 19) (.seq (.region [Oa 4 (.mov (Kz 1))]) (.ret)) (.skip))) (.seq (.region [Oa 4 (.mov (Kz 0))]) (.ret))))))))⟩
theorem low136 : zf Tryz.prog gl0 136 = some lf136 := Go.Abs.lowF (by kernel_rfl)
def lf149 : LFunc := ⟨6,[.slot 2],.seq (.region [Oa 2 (.mov Kg)]) (.seq (.region [Om 3 0,Om 4 0,Oa 5 (.bin .neq (Tm 3) (Tm 4)),Om 2 5]) (.ret))⟩
theorem low149 : zf Tryz.prog gl0 149 = some lf149 := Go.Abs.lowF (by kernel_rfl)
def lf150 : LFunc := ⟨6,[.slot 2],.seq (.region [Oa 2 (.mov Kg)]) (.seq (.region [Om 3 0,Om 4 0,Oa 5 (.bin .neq (Tm 3) (Tm 4)),Om 2 5]) (.ret))⟩
theorem low150 : zf Tryz.prog gl0 150 = some lf150 := Go.Abs.lowF (by kernel_rfl)
def lf160_B0 : LCode := .block 0 (.loop (.seq (.seq (.region [Om 67 15,Oa 68 (.bin .geq (Tm 67) (.cst (.p (.int .u64 4294967296)))),Om 69 68,Oo 70 69 15,Oo 71 69 10,Od 72 69 (.bin .mul (Tm 70) (Tm 71)),Oo 73 69 16,Od 74 69 (.bin .mul (.cst (.p (.int .u64 4294967296))) (Tm 73)),Oo 75 69 13,Od 76 69 (.bin .add (Tm 74) (Tm 75)),Od 77 69 (.bin .gtr (Tm 72) (Tm 76)),Ou 78 69 77]) (.cond (Tm 78) (.skip) (.exit 0))) (.block 1 (.seq (.region [Om 79 15,Oa 80 (.bin .sub (Tm 79) (.cst (.p (.int .u64 1)))),Om 15 80]) (.seq (.region [Om 81 16,Om 82 9,Oa 83 (.bin .add (Tm 81) (Tm 82)),Om 16 83]) (.seq (.region [Om 84 16,Oa 85 (.bin .geq (Tm 84) (.cst (.p (.int .u64 4294967296))))]) (.cond (Tm 85) (.exit 0) (.skip))))))))
def lf160_B1 : LCode := .block 2 (.loop (.seq (.seq (.region [Om 102 18,Oa 103 (.bin .geq (Tm 102) (.cst (.p (.int .u64 4294967296)))),Om 104 103,Oo 105 104 18,Oo 106 104 10,Od 107 104 (.bin .mul (Tm 105) (Tm 106)),Oo 108 104 16,Od 109 104 (.bin .mul (.cst (.p (.int .u64 4294967296))) (Tm 108)),Oo 110 104 14,Od 111 104 (.bin .add (Tm 109) (Tm 110)),Od 112 104 (.bin .gtr (Tm 107) (Tm 111)),Ou 113 104 112]) (.cond (Tm 113) (.skip) (.exit 2))) (.block 3 (.seq (.region [Om 114 18,Oa 115 (.bin .sub (Tm 114) (.cst (.p (.int .u64 1)))),Om 18 115]) (.seq (.region [Om 116 16,Om 117 9,Oa 118 (.bin .add (Tm 116) (Tm 117)),Om 16 118]) (.seq (.region [Om 119 16,Oa 120 (.bin .geq (Tm 119) (.cst (.p (.int .u64 4294967296))))]) (.cond (Tm 120) (.exit 2) (.skip))))))))
def lf160 : LFunc := ⟨135,[.slot 6,.slot 7],.seq (.region [Oa 6 (.mov (.cst (.p (.int .u64 0)))),Oa 7 (.mov (.cst (.p (.int .u64 0))))]) (.seq (.seq (.region [Om 19 2,Oa 20 (.bin .eql (Tm 19) (.cst (.p (.int .u64 0))))]) (.cond (Tm 20) (.region [Oa 21 (.load 1 false (.cst .junk)),Ob .bad]) (.skip))) (.seq (.seq (.region [Om 22 2,Om 23 0,Oa 24 (.bin .leq (Tm 22) (Tm 23))]) (.cond (Tm 24) (.region [Oa 25 (.load 1 false (.cst .junk)),Ob .bad]) (.skip))) (.seq (.seq (.region [Om 26 0,Oa 27 (.bin .eql (Tm 26) (.cst (.p (.int .u64 0))))]) (.cond (Tm 27) (.seq (.regionD [Om 28 1,Om 29 2,Oa 30 (.bin .quo (Tm 28) (Tm 29)),Om 31 1,Om 32 2,Oa 33 (.bin .rem (Tm 31) (Tm 32)),Om 6 30,Om 7 33]) (.ret)) (.skip))) (.seq (.region [Om 34 2,Oa 35 (.call 152 [Tm 34]),Oa 36 (.conv (.toInt .u64) (Tm 35)),Om 8 36]) (.seq (.region [Om 37 2,Om 38 8,Oa 39 (.bin .shl (Tm 37) (Tm 38)),Om 2 39]) (.seq (.region [Om 40 2,Oa 41 (.bin .shr (Tm 40) (.cst (.p (.int .u64 32)))),Om 9 41]) (.seq (.region [Om 42 2,Oa 43 (.bin .and (Tm 42) (.cst (.p (.int .u64 4294967295)))),Om 10 43]) (.seq (.region [Om 44 0,Om 45 8,Oa 46 (.bin .shl (Tm 44) (Tm 45)),Om 47 1,Om 48 8,Oa 49 (.bin .sub (.cst (.p (.int .u64 64))) (Tm 48)),Oa 50 (.bin .shr (Tm 47) (Tm 49)),Oa 51 (.bin .or (Tm 46) (Tm 50)),Om 11 51]) (.seq (.region [Om 52 1,Om 53 8,Oa 54 (.bin .shl (Tm 52) (Tm 53)),Om 12 54]) (.seq (.region [Om 55 12,Oa 56 (.bin .shr (Tm 55) (.cst (.p (.int .u64 32)))),Om 13 56]) (.seq (.region [Om 57 12,Oa 58 (.bin .and (Tm 57) (.cst (.p (.int .u64 4294967295)))),Om 14 58]) (.seq (.region [Om 59 11,Om 60 9,Oa 61 (.bin .quo (Tm 59) (Tm 60)),Om 15 61]) (.seq (.region [Om 62 11,Om 63 15,Om 64 9,Oa 65 (.bin .mul (Tm 63) (Tm 64)),Oa 66 (.bin .sub (Tm 62) (Tm 65)),Om 16 66]) (.seq (lf160_B0) (.seq (.region [Om 86 11,Oa 87 (.bin .mul (Tm 86) (.cst (.p (.int .u64 4294967296)))),Om 88 13,Oa 89 (.bin .add (Tm 87) (Tm 88)),Om 90 15,Om 91 2,Oa 92 (.bin .mul (Tm 90) (Tm 91)),Oa 93 (.bin .sub (Tm 89) (Tm 92)),Om 17 93]) (.seq (.region [Om 94 17,Om 95 9,Oa 96
 (.bin .quo (Tm 94) (Tm 95)),Om 18 96]) (.seq (.region [Om 97 17,Om 98 18,Om 99 9,Oa 100 (.bin .mul (Tm 98) (Tm 99)),Oa 101 (.bin .sub (Tm 97) (Tm 100)),Om 16 101]) (.seq (lf160_B1) (.seq (.region [Om 121 15,Oa 122 (.bin .mul (Tm 121) (.cst (.p (.int .u64 4294967296)))),Om 123 18,Oa 124 (.bin .add (Tm 122) (Tm 123)),Om 125 17,Oa 126 (.bin .mul (Tm 125) (.cst (.p (.int .u64 4294967296)))),Om 127 14,Oa 128 (.bin .add (Tm 126) (Tm 127)),Om 129 18,Om 130 2,Oa 131 (.bin .mul (Tm 129) (Tm 130)),Oa 132 (.bin .sub (Tm 128) (Tm 131)),Om 133 8,Oa 134 (.bin .shr (Tm 132) (Tm 133)),Om 6 124,Om 7 134]) (.ret))))))))))))))))))))⟩
theorem low160 : zf Tryz.prog gl0 160 = some lf160 := Go.Abs.lowF (by kernel_rfl)
def lf152 : LFunc := ⟨6,[.slot 2],.seq (.region [Oa 2 (.mov (Kz 0))]) (.seq (.region [Om 3 0,Oa 4 (.call 100 [Tm 3]),Oa 5 (.bin .sub (Kz 64) (Tm 4)),Om 2 5]) (.ret))⟩
theorem low152 : zf Tryz.prog gl0 152 = some lf152 := Go.Abs.lowF (by kernel_rfl)
def lf100 : LFunc := ⟨25,[.slot 2],.seq (.region [Oa 2 (.mov (Kz 0))]) (.seq (.seq (.region [Om 3 0,Oa 4 (.bin .geq (Tm 3) (.cst (.p (.int .u64 4294967296))))]) (.cond (Tm 4) (.seq (.region [Om 5 0,Oa 6 (.bin .shr (Tm 5) (.cst (.p (.int .u64 32)))),Om 0 6]) (.region [Oa 2 (.mov (Kz 32))])) (.skip))) (.seq (.seq (.region [Om 7 0,Oa 8 (.bin .geq (Tm 7) (.cst (.p (.int .u64 65536))))]) (.cond (Tm 8) (.seq (.region [Om 9 0,Oa 10 (.bin .shr (Tm 9) (.cst (.p (.int .u64 16)))),Om 0 10]) (.region [Om 11 2,Oa 12 (.bin .add (Tm 11) (Kz 16)),Om 2 12])) (.skip))) (.seq (.seq (.region [Om 13 0,Oa 14 (.bin .geq (Tm 13) (.cst (.p (.int .u64 256))))]) (.cond (Tm 14) (.seq (.region [Om 15 0,Oa 16 (.bin .shr (Tm 15) (.cst (.p (.int .u64 8)))),Om 0 16]) (.region [Om 17 2,Oa 18 (.bin .add (Tm 17) (Kz 8)),Om 2 18])) (.skip))) (.seq (.region [Om 19 2,Om 20 0,Oa 21 (.conv (.toInt .u8) (Tm 20)),Oa 22 (.istr (.cst (.p (.str [0,1,2,2,3,3,3,3,4,4,4,4,4,4,4,4,5,5,5,5,5,5,5,5,5,5,5,5,5,5,5,5,6,6,6,6,6,6,6,6,6,6,6,6,6,6,6,6,6,6,6,6,6,6,6,6,6,6,6,6,6,6,6,6,7,7,7,7,7,7,7,7,7,7,7,7,7,7,7,7,7,7,7,7,7,7,7,7,7,7,7,7,7,7,7,7,7,7,7,7,7,7,7,7,7,7,7,7,7,7,7,7,7,7,7,7,7,7,7,7,7,7,7,7,7,7,7,7,8,8,8,8,8,8,8,8,8,8,8,8,8,8,8,8,8,8,8,8,8,8,8,8,8,8,8,8,8,8,8,8,8,8,8,8,8,8,8,8,8,8,8,8,8,8,8,8,8,8,8,8,8,8,8,8,8,8,8,8,8,8,8,8,8,8,8,8,8,8,8,8,8,8,8,8,8,8,8,8,8,8,8,8,8,8,8,8,8,8,8,8,8,8,8,8,8,8,8,8,8,8,8,8,8,8,8,8,8,8,8,8,8,8,8,8,8,8,8,8,8,8,8,8,8,8,8,8]))) (Tm 21)),Oa 23 (.conv (.toInt .i64) (Tm 22)),Oa 24 (.bin .add (Tm 19) (Tm 23)),Om 2 24]) (.ret)))))⟩
theorem low100 : zf Tryz.prog gl0 100 = some lf100 := Go.Abs.lowF (by kernel_rfl)
def lf143 : LFunc := ⟨51,[.slot 4,.slot 5],.seq (.region [Oa 4 (.mov (.cst (.p (.int .u64 0)))),Oa 5 (.mov (.cst (.p (.int .u64 0))))]) (.seq (.region [Om 14 0,Oa 15 (.bin .and (Tm 14) (.cst (.p (.int .u64 4294967295)))),Om 6 15]) (.seq (.region [Om 16 0,Oa 17 (.bin .shr (Tm 16) (.cst (.p (.int .u64 32)))),Om 7 17]) (.seq (.region [Om 18 1,Oa 19 (.bin .and (Tm 18) (.cst (.p (.int .u64 4294967295)))),Om 8 19]) (.seq (.region [Om 20 1,Oa 21 (.bin .shr (Tm 20) (.cst (.p (.int .u64 32)))),Om 9 21]) (.seq (.region [Om 22 6,Om 23 8,Oa 24 (.bin .mul (Tm 22) (Tm 23)),Om 10 24]) (.seq (.region [Om 25 7,Om 26 8,Oa 27 (.bin .mul (Tm 25) (Tm 26)),Om 28 10,Oa 29 (.bin .shr (Tm 28) (.cst (.p (.int .u64 32)))),Oa 30 (.bin .add (Tm 27) (Tm 29)),Om 11 30]) (.seq (.region [Om 31 11,Oa 32 (.bin .and (Tm 31) (.cst (.p (.int .u64 4294967295)))),Om 12 32]) (.seq (.region [Om 33 11,Oa 34 (.bin .shr (Tm 33) (.cst (.p (.int .u64 32)))),Om 13 34]) (.seq (.region [Om 35 12,Om 36 6,Om 37 9,Oa 38 (.bin .mul (Tm 36) (Tm 37)),Oa 39 (.bin .add (Tm 35) (Tm 38)),Om 12 39]) (.seq (.region [Om 40 7,Om 41 9,Oa 42 (.bin .mul (Tm 40) (Tm 41)),Om 43 13,Oa 44 (.bin .add (Tm 42) (Tm 43)),Om 45 12,Oa 46 (.bin .shr (Tm 45) (.cst (.p (.int .u64 32)))),Oa 47 (.bin .add (Tm 44) (Tm 46)),Om 4 47]) (.seq (.region [Om 48 0,Om 49 1,Oa 50 (.bin .mul (Tm 48) (Tm 49)),Om 5 50]) (.ret))))))))))))⟩
theorem low143 : zf Tryz.prog gl0 143 = some lf143 := Go.Abs.lowF (by kernel_rfl)
def lf107_B0 : LCode := .block 0 (.loop (.seq (.seq (.region [Om 7 1,Oa 8 (.len (Tm 7)),Oa 9 (.bin .gtr (Tm 8) (Kz 0))]) (.cond (Tm 9) (.skip) (.exit 0))) (.block 1 (.seq (.region [Om 11 0,Om 12 1,Oa 13 (.call 137 [Tm 11,Tm 12]),Om 10 13,Ox 14 10 0,Ox 15 10 1,Om 5 14,Om 6 15]) (.region [Om 16 1,Om 17 6,Om 0 16,Om 1 17])))))
def lf107 : LFunc := ⟨20,[.slot 4],.seq (.region [Oa 4 (.mov (.cst (.tight [])))]) (.seq (lf107_B0) (.seq (.region [Om 18 0,Oa 19 (.call 117 [Tm 18]),Om 4 19]) (.ret)))⟩
theorem low107 : zf Tryz.prog gl0 107 = some lf107 := Go.Abs.lowF (by kernel_rfl)
def lf153_B0 : LCode := .block 0 (.loop (.seq (.region [Oa 22 (.bin .lss (Tm 21) (Tm 20))]) (.seq (.cond (Tm 22) (.skip) (.exit 0)) (.seq (.block 1 (.seq (.region [Om 23 21,Oa 24 (.iadr 1 (Tm 19) (Tm 21)),Oq 25 1 false 24,Om 7 23,Om 8 25]) (.seq (.region [Om 26 5,Om 27 7,Om 28 1,Oa 29 (.bin .quo (Tm 28) (Kz 64)),Oa 30 (.bin .add (Tm 27) (Tm 29)),Oa 31 (.iadr 1 (Tm 26) (Tm 30)),Oq 32 1 false 31,Om 33 8,Om 34 6,Oa 35 (.bin .shl (Tm 33) (Tm 34)),Oa 36 (.bin .or (Tm 32) (Tm 35)),Oa 37 (.iadr 1 (Tm 26) (Tm 30)),Oy 1 37 36]) (.seq (.region [Om 38 6,Oa 39 (.bin .gtr (Tm 38) (.cst (.p (.int .u64 0))))]) (.cond (Tm 39) (.region [Om 40 5,Om 41 7,Om 42 1,Oa 43 (.bin .quo (Tm 42) (Kz 64)),Oa 44 (.bin .add (Tm 41) (Tm 43)),Oa 45 (.bin .add (Tm 44) (Kz 1)),Oa 46 (.iadr 1 (Tm 40) (Tm 45)),Oq 47 1 false 46,Om 48 8,Om 49 6,Oa 50 (.bin .sub (.cst (.p (.int .u64 64))) (Tm 49)),Oa 51 (.bin .shr (Tm 48) (Tm 50)),Oa 52 (.bin .or (Tm 47) (Tm 51)),Oa 53 (.iadr 1 (Tm 40) (Tm 45)),Oy 1 53 52]) (.skip)))))) (.region [Oa 54 (.bin .add (Tm 21) (Kz 1)),Om 21 54])))))
def lf153 : LFunc := ⟨57,[.slot 4],.seq (.region [Oa 4 (.mov (.cst (.tight [])))]) (.seq (.region [Om 9 0,Oa 10 (.len (Tm 9)),Om 11 1,Oa 12 (.bin .quo (Tm 11) (Kz 64)),Oa 13 (.bin .add (Tm 10) (Tm 12)),Oa 14 (.bin .add (Tm 13) (Kz 1)),Oa 15 (.mksl 1 8 147 (.p (.int .u64 0)) (Tm 14) (Tm 14)),Om 5 15]) (.seq (.region [Om 16 1,Oa 17 (.bin .rem (Tm 16) (Kz 64)),Oa 18 (.conv (.toInt .u64) (Tm 17)),Om 6 18]) (.seq (.seq (.region [Om 19 0,Oa 20 (.len (Tm 19)),Oa 21 (.mov (Kz 0))]) (lf153_B0)) (.seq (.region [Om 55 5,Oa 56 (.call 139 [Tm 55]),Om 4 56]) (.ret)))))⟩
theorem low153 : zf Tryz.prog gl0 153 = some lf153 := Go.Abs.lowF (by kernel_rfl)
def lf142_B0 : LCode := .block 0 (.loop (.seq (.region [Oa 16 (.bin .lss (Tm 15) (Tm 14))]) (.seq (.cond (Tm 16) (.skip) (.exit 0)) (.seq (.block 1 (.seq (.region [Om 17 15,Oa 18 (.iadr 1 (Tm 13) (Tm 15)),Oq 19 1 false 18,Om 7 17,Om 8 19]) (.seq (.region [Oa 9 (.mov (.cst (.p (.int .u64 0))))]) (.seq (.seq (.region [Om 20 7,Om 21 1,Oa 22 (.len (Tm 21)),Oa 23 (.bin .lss (Tm 20) (Tm 22))]) (.cond (Tm 23) (.region [Om 24 1,Om 25 7,Oa 26 (.iadr 1 (Tm 24) (Tm 25)),Oq 27 1 false 26,Om 9 27]) (.skip))) (.region [Om 29 5,Om 30 7,Om 31 8,Om 32 9,Om 33 6,Oa 34 (.calle 148 [Tm 31,Tm 32,Tm 33]),Om 28 34,Ox 35 28 0,Ox 36 28 1,Oa 37 (.iadr 1 (Tm 29) (Tm 30)),Oy 1 37 35,Om 6 36]))))) (.region [Oa 38 (.bin .add (Tm 15) (Kz 1)),Om 15 38])))))
def lf142 : LFunc := ⟨41,[.slot 4],.seq (.region [Oa 4 (.mov (.cst (.tight [])))]) (.seq (.region [Om 10 0,Oa 11 (.len (Tm 10)),Oa 12 (.mksl 1 8 147 (.p (.int .u64 0)) (Tm 11) (Tm 11)),Om 5 12]) (.seq (.region [Oa 6 (.mov (.cst (.p (.int .u64 0))))]) (.seq (.seq (.region [Om 13 0,Oa 14 (.len (Tm 13)),Oa 15 (.mov (Kz 0))]) (lf142_B0)) (.seq (.region [Om 39 5,Oa 40 (.call 139 [Tm 39]),Om 4 40]) (.ret)))))⟩
theorem low142 : zf Tryz.prog gl0 142 = some lf142 := Go.Abs.lowF (by kernel_rfl)
def lf113 : LFunc := ⟨8,[.slot 2],.seq (.region [Oa 2 (.mov (.cst (.tight [])))]) (.seq (.seq (.region [Om 3 0,Oa 4 (.bin .leq (Tm 3) (Kz 0))]) (.cond (Tm 4) (.seq (.region [Oa 2 (.mov (.cst (.tight [])))]) (.ret)) (.skip))) (.seq (.region [Om 5 0,Oa 6 (.conv (.toInt .u64) (Tm 5)),Oa 7 (.buildSl 1 147 (.p (.int .u64 0)) 1 [(0,(Tm 6))]),Om 2 7]) (.ret)))⟩
theorem low113 : zf Tryz.prog gl0 113 = some lf113 := Go.Abs.lowF (by kernel_rfl)
def lf106_B0 : LCode := .block 0 (.loop (.seq (.seq (.region [Om 19 5,Oa 20 (.bin .geq (Tm 19) (Kz 0))]) (.cond (Tm 20) (.skip) (.exit 0))) (.seq (.block 1 (.seq (.regionD [Om 23 0,Om 24 5,Oa 25 (.iadr 1 (Tm 23) (Tm 24)),Oq 26 1 false 25,Om 27 1,Om 28 5,Oa 29 (.iadr 1 (Tm 27) (Tm 28)),Oq 30 1 false 29,Oa 31 (.bin .neq (Tm 26) (Tm 30))]) (.cond (Tm 31) (.seq (.regionD [Om 32 0,Om 33 5,Oa 34 (.iadr 1 (Tm 32) (Tm 33)),Oq 35 1 false 34,Om 36 1,Om 37 5,Oa 38 (.iadr 1 (Tm 36) (Tm 37)),Oq 39 1 false 38,Oa 40 (.call 136 [Tm 35,Tm 39]),Om 4 40]) (.ret)) (.skip)))) (.region [Om 21 5,Oa 22 (.bin .sub (Tm 21) (Kz 1)),Om 5 22]))))
def lf106 : LFunc := ⟨41,[.slot 4],.seq (.region [Oa 4 (.mov (Kz 0))]) (.seq (.seq (.region [Om 6 0,Oa 7 (.len (Tm 6)),Om 8 1,Oa 9 (.len (Tm 8)),Oa 10 (.bin .neq (Tm 7) (Tm 9))]) (.cond (Tm 10) (.seq (.region [Om 11 0,Oa 12 (.len (Tm 11)),Om 13 1,Oa 14 (.len (Tm 13)),Oa 15 (.call 135 [Tm 12,Tm 14]),Om 4 15]) (.ret)) (.skip))) (.seq (.seq (.region [Om 16 0,Oa 17 (.len (Tm 16)),Oa 18 (.bin .sub (Tm 17) (Kz 1)),Om 5 18]) (lf106_B0)) (.seq (.region [Oa 4 (.mov (Kz 0))]) (.ret))))⟩
theorem low106 : zf Tryz.prog gl0 106 = some lf106 := Go.Abs.lowF (by kernel_rfl)
def lf141_B0 : LCode := .block 0 (.loop (.seq (.region [Oa 24 (.bin .lss (Tm 23) (Tm 22))]) (.seq (.cond (Tm 24) (.skip) (.exit 0)) (.seq (.block 1 (.seq (.region [Om 25 23,Oa 26 (.iadr 1 (Tm 21) (Tm 23)),Oq 27 1 false 26,Om 7 25,Om 8 27]) (.seq (.region [Oa 9 (.mov (.cst (.p (.int .u64 0))))]) (.seq (.seq (.region [Om 28 7,Om 29 1,Oa 30 (.len (Tm 29)),Oa 31 (.bin .lss (Tm 28) (Tm 30))]) (.cond (Tm 31) (.region [Om 32 1,Om 33 7,Oa 34 (.iadr 1 (Tm 32) (Tm 33)),Oq 35 1 false 34,Om 9 35]) (.skip))) (.region [Om 37 5,Om 38 7,Om 39 8,Om 40 9,Om 41 6,Oa 42 (.calle 144 [Tm 39,Tm 40,Tm 41]),Om 36 42,Ox 43 36 0,Ox 44 36 1,Oa 45 (.iadr 1 (Tm 37) (Tm 38)),Oy 1 45 43,Om 6 44]))))) (.region [Oa 46 (.bin .add (Tm 23) (Kz 1)),Om 23 46])))))
def lf141 : LFunc := ⟨54,[.slot 4],.seq (.region [Oa 4 (.mov (.cst (.tight [])))]) (.seq (.seq (.region [Om 10 0,Oa 11 (.len (Tm 10)),Om 12 1,Oa 13 (.len (Tm 12)),Oa 14 (.bin .lss (Tm 11) (Tm 13))]) (.cond (Tm 14) (.region [Om 15 1,Om 16 0,Om 0 15,Om 1 16]) (.skip))) (.seq (.region [Om 17 0,Oa 18 (.len (Tm 17)),Oa 19 (.bin .add (Tm 18) (Kz 1)),Oa 20 (.mksl 1 8 147 (.p (.int .u64 0)) (Tm 19) (Tm 19)),Om 5 20]) (.seq (.region [Oa 6 (.mov (.cst (.p (.int .u64 0))))]) (.seq (.seq (.region [Om 21 0,Oa 22 (.len (Tm 21)),Oa 23 (.mov (Kz 0))]) (lf141_B0)) (.seq (.region [Om 47 5,Om 48 0,Oa 49 (.len (Tm 48)),Om 50 6,Oa 51 (.iadr 1 (Tm 47) (Tm 49)),Oy 1 51 50]) (.seq (.region [Om 52 5,Oa 53 (.call 139 [Tm 52]),Om 4 53]) (.ret)))))))⟩
theorem low141 : zf Tryz.prog gl0 141 = some lf141 := Go.Abs.lowF (by kernel_rfl)
def lf137_B0 : LCode := .block 3 (.loop (.seq (.seq (.region [Om 113 13]) (.cond (Tm 113) (.skip) (.exit 3))) (.seq (.block 4 (.seq (.region [Om 116 10,Om 117 11,Om 118 8,Oa 119 (.bin .add (Tm 117) (Tm 118)),Oa 120 (.iadr 1 (Tm 116) (Tm 119)),Oq 121 1 false 120,Om 14 121]) (.seq (.region [Om 122 10,Om 123 11,Om 124 11,Om 125 8,Oa 126 (.bin .add (Tm 124) (Tm 125)),Oa 127 (.bin .add (Tm 126) (Kz 1)),Oa 128 (.slSl 1 (Tm 122) (some (Tm 123)) (some (Tm 127)) none),Om 129 1,Oa 130 (.call 156 [Tm 128,Tm 129])]) (.region [Om 131 10,Om 132 11,Om 133 8,Oa 134 (.bin .add (Tm 132) (Tm 133)),Oa 135 (.iadr 1 (Tm 131) (Tm 134)),Oq 136 1 false 135,Om 137 14,Oa 138 (.bin .geq (Tm 136) (Tm 137)),Om 13 138])))) (.region [Om 114 12,Oa 115 (.bin .sub (Tm 114) (.cst (.p (.int .u64 1)))),Om 12 115]))))
def lf137_B1 : LCode := .block 1 (.loop (.seq (.seq (.region [Om 68 11,Oa 69 (.bin .geq (Tm 68) (Kz 0))]) (.cond (Tm 69) (.skip) (.exit 1))) (.seq (.block 2 (.seq (.regionD [Om 72 10,Om 73 11,Om 74 8,Oa 75 (.bin .add (Tm 73) (Tm 74)),Oa 76 (.iadr 1 (Tm 72) (Tm 75)),Oq 77 1 false 76,Om 78 10,Om 79 11,Om 80 8,Oa 81 (.bin .add (Tm 79) (Tm 80)),Oa 82 (.bin .sub (Tm 81) (Kz 1)),Oa 83 (.iadr 1 (Tm 78) (Tm 82)),Oq 84 1 false 83,Om 85 10,Om 86 11,Om 87 8,Oa 88 (.bin .add (Tm 86) (Tm 87)),Oa 89 (.bin .sub (Tm 88) (Kz 2)),Oa 90 (.iadr 1 (Tm 85) (Tm 89)),Oq 91 1 false 90,Om 92 1,Om 93 8,Oa 94 (.bin .sub (Tm 93) (Kz 1)),Oa 95 (.iadr 1 (Tm 92) (Tm 94)),Oq 96 1 false 95,Om 97 1,Om 98 8,Oa 99 (.bin .sub (Tm 98) (Kz 2)),Oa 100 (.iadr 1 (Tm 97) (Tm 99)),Oq 101 1 false 100,Oa 102 (.call 154 [Tm 77,Tm 84,Tm 91,Tm 96,Tm 101]),Om 12 102]) (.seq (.seq (.region [Om 103 10,Om 104 11,Om 105 11,Om 106 8,Oa 107 (.bin .add (Tm 105) (Tm 106)),Oa 108 (.bin .add (Tm 107) (Kz 1)),Oa 109 (.slSl 1 (Tm 103) (some (Tm 104)) (some (Tm 108)) none),Om 110 1,Om 111 12,Oa 112 (.call 155 [Tm 109,Tm 110,Tm 111]),Om 13 112]) (lf137_B0)) (.region [Om 139 4,Om 140 11,Om 141 12,Oa 142 (.iadr 1 (Tm 139) (Tm 140)),Oy 1 142 141])))) (.region [Om 70 11,Oa 71 (.bin .sub (Tm 70) (Kz 1)),Om 11 71]))))
def lf137 : LFunc := ⟨149,[.slot 4,.slot 5],.seq (.region [Oa 4 (.mov (.cst (.tight []))),Oa 5 (.mov (.cst (.tight [])))]) (.seq (.block 0 (.seq (.region [Om 16 0,Om 17 1,Oa 18 (.call 106 [Tm 16,Tm 17]),Oa 19 (.bin .lss (Tm 18) (Kz 0)),Om 15 19]) (.cond (Tm 15) (.seq (.region [Om 20 0,Oa 21 (.call 139 [Tm 20]),Oa 22 (.call 117 [Tm 21]),Oa 4 (.mov (.cst (.tight []))),Om 5 22]) (.ret)) (.seq (.region [Om 24 1,Oa 25 (.len (Tm 24)),Oa 26 (.bin .eql (Tm 25) (Kz 1)),Om 23 26]) (.cond (Tm 23) (.seq (.region [Om 28 0,Om 29 1,Oa 30 (.iadr 1 (Tm 29) (Kz 0)),Oq 31 1 false 30,Oa 32 (.call 151 [Tm 28,Tm 31]),Om 27 32,Ox 33 27 0,Ox 34 27 1,Om 6 33,Om 7 34]) (.seq (.region [Om 35 6,Om 36 7,Oa 37 (.buildSl 1 147 (.p (.int .u64 0)) 1 [(0,(Tm 36))]),Oa 38 (.call 139 [Tm 37]),Om 4 35,Om 5 38]) (.ret))) (.skip)))))) (.seq (.region [Om 39 1,Oa 40 (.len (Tm 39)),Om 8 40]) (.seq (.region [Om 41 1,Om 42 8,Oa 43 (.bin .sub (Tm 42) (Kz 1)),Oa 44 (.iadr 1 (Tm 41) (Tm 43)),Oq 45 1 false 44,Oa 46 (.call 152 [Tm 45]),Om 9 46]) (.seq (.region [Om 47 1,Om 48 9,Oa 49 (.call 153 [Tm 47,Tm 48]),Om 1 49]) (.seq (.region [Om 50 0,Oa 51 (.len (Tm 50)),Oa 52 (.bin .add (Tm 51) (Kz 1)),Oa 53 (.mksl 1 8 147 (.p (.int .u64 0)) (Tm 52) (Tm 52)),Om 10 53]) (.seq (.region [Om 54 10,Om 55 0,Om 56 9,Oa 57 (.call 153 [Tm 55,Tm 56]),Oa 58 (.cpy 1 (Tm 54) (Tm 57))]) (.seq (.region [Om 59 0,Oa 60 (.len (Tm 59)),Om 61 8,Oa 62 (.bin .sub (Tm 60) (Tm 61)),Oa 63 (.bin .add (Tm 62) (Kz 1)),Oa 64 (.mksl 1 8 147 (.p (.int .u64 0)) (Tm 63) (Tm 63)),Om 4 64]) (.seq (.seq (.region [Om 65 4,Oa 66 (.len (Tm 65)),Oa 67 (.bin .sub (Tm 66) (Kz 1)),Om 11 67]) (lf137_B1)) (.seq (.region [Om 143 4,Oa 144 (.call 139 [Tm 143]),Om 145 10,Oa 146 (.call 139 [Tm 145]),Om 147 9,Oa 148 (.call 157 [Tm 146,Tm 147]),Om 4 144,Om 5 148]) (.ret))))))))))⟩
theorem low137 : zf Tryz.prog gl0 137 = some lf137 := Go.Abs.lowF (by kernel_rfl)
def lf157_B0 : LCode := .block 0 (.loop (.seq (.region [Oa 27 (.bin .lss (Tm 26) (Tm 25))]) (.seq (.cond (Tm 27) (.skip) (.exit 0)) (.seq (.block 1 (.seq (.region [Om 28 26,Oa 29 (.iadr 1 (Tm 24) (Tm 26)),Oq 30 1 false 29,Om 7 28,Om 8 30]) (.seq (.region [Om 31 6,Om 32 7,Om 33 8,Om 34 5,Oa 35 (.bin .shr (Tm 33) (Tm 34)),Oa 36 (.iadr 1 (Tm 31) (Tm 32)),Oy 1 36 35]) (.seq (.region [Om 37 5,Oa 38 (.bin .gtr (Tm 37) (.cst (.p (.int .u64 0)))),Om 39 38,Oj 40 39 7,Oc 41 39 (.bin .add (Tm 40) (Kz 1)),Oj 42 39 0,Oc 43 39 (.len (Tm 42)),Oc 44 39 (.bin .lss (Tm 41) (Tm 43)),Ot 45 39 44]) (.cond (Tm 45) (.regionW [(Om 46 6,.f),(Om 47 7,.f),(Oa 48 (.iadr 1 (Tm 46) (Tm 47)),.f),(Oq 49 1 false 48,.f),(Om 50 0,.f),(Om 51 7,.f),(Oa 52 (.bin .add (Tm 51) (Kz 1)),.f),(Oa 53 (.iadr 1 (Tm 50) (Tm 52)),.f),(Oq 54 1 false 53,.f),(Om 55 5,.f),(Oa 56 (.bin .sub (.cst (.p (.int .u64 64))) (Tm 55)),.f),(Oa 57 (.bin .shl (Tm 54) (Tm 56)),.f),(Oa 58 (.bin .or (Tm 49) (Tm 57)),.f),(Oa 59 (.iadr 1 (Tm 46) (Tm 47)),.f),(Oy 1 59 58,.f)]) (.skip)))))) (.region [Oa 60 (.bin .add (Tm 26) (Kz 1)),Om 26 60])))))
def lf157 : LFunc := ⟨63,[.slot 4],.seq (.region [Oa 4 (.mov (.cst (.tight [])))]) (.seq (.seq (.region [Om 9 1,Oa 10 (.bin .quo (Tm 9) (Kz 64)),Om 11 0,Oa 12 (.len (Tm 11)),Oa 13 (.bin .geq (Tm 10) (Tm 12))]) (.cond (Tm 13) (.seq (.region [Oa 4 (.mov (.cst (.tight [])))]) (.ret)) (.skip))) (.seq (.region [Om 14 0,Om 15 1,Oa 16 (.bin .quo (Tm 15) (Kz 64)),Oa 17 (.slSl 1 (Tm 14) (some (Tm 16)) none none),Om 0 17]) (.seq (.region [Om 18 1,Oa 19 (.bin .rem (Tm 18) (Kz 64)),Oa 20 (.conv (.toInt .u64) (Tm 19)),Om 5 20]) (.seq (.region [Om 21 0,Oa 22 (.len (Tm 21)),Oa 23 (.mksl 1 8 147 (.p (.int .u64 0)) (Tm 22) (Tm 22)),Om 6 23]) (.seq (.seq (.region [Om 24 0,Oa 25 (.len (Tm 24)),Oa 26 (.mov (Kz 0))]) (lf157_B0)) (.seq (.region [Om 61 6,Oa 62 (.call 139 [Tm 61]),Om 4 62]) (.ret)))))))⟩
theorem low157 : zf Tryz.prog gl0 157 = some lf157 := Go.Abs.lowF (by kernel_rfl)
def lf109_B0 : LCode := .block 0 (.loop (.seq (.region [Oa 18 (.bin .lss (Tm 17) (Tm 16))]) (.seq (.cond (Tm 18) (.skip) (.exit 0)) (.seq (.block 1 (.seq (.region [Om 19 17,Oa 20 (.iadr 1 (Tm 15) (Tm 17)),Oq 21 1 false 20,Om 6 19,Om 7 21]) (.region [Om 22 5,Om 23 6,Om 24 6,Om 25 0,Oa 26 (.len (Tm 25)),Oa 27 (.bin .add (Tm 24) (Tm 26)),Oa 28 (.bin .add (Tm 27) (Kz 1)),Oa 29 (.slSl 1 (Tm 22) (some (Tm 23)) (some (Tm 28)) none),Om 30 0,Om 31 7,Oa 32 (.call 138 [Tm 29,Tm 30,Tm 31])]))) (.region [Oa 33 (.bin .add (Tm 17) (Kz 1)),Om 17 33])))))
def lf109 : LFunc := ⟨36,[.slot 4],.seq (.region [Oa 4 (.mov (.cst (.tight [])))]) (.seq (.region [Om 8 0,Oa 9 (.len (Tm 8)),Om 10 1,Oa 11 (.len (Tm 10)),Oa 12 (.bin .add (Tm 9) (Tm 11)),Oa 13 (.bin .add (Tm 12) (Kz 1)),Oa 14 (.mksl 1 8 147 (.p (.int .u64 0)) (Tm 13) (Tm 13)),Om 5 14]) (.seq (.seq (.region [Om 15 1,Oa 16 (.len (Tm 15)),Oa 17 (.mov (Kz 0))]) (lf109_B0)) (.seq (.region [Om 34 5,Oa 35 (.call 139 [Tm 34]),Om 4 35]) (.ret))))⟩
theorem low109 : zf Tryz.prog gl0 109 = some lf109 := Go.Abs.lowF (by kernel_rfl)
def lf105 : LFunc := ⟨20,[.slot 2],.seq (.region [Oa 2 (.mov Kg)]) (.seq (.region [Om 3 0,Oa 4 (.len (Tm 3)),Oa 5 (.bin .leq (Tm 4) (Kz 64)),Om 6 5,Oj 7 6 0,Oc 8 6 (.len (Tm 7)),Oc 9 6 (.bin .eql (Tm 8) (Kz 0)),Oj 10 6 9,Oo 11 10 0,Oo 12 10 0,Od 13 10 (.len (Tm 12)),Od 14 10 (.bin .sub (Tm 13) (Kz 1)),Od 15 10 (.iadr 1 (Tm 11) (Tm 14)),Od 16 10 (.load 1 false (Tm 15)),Od 17 10 (.bin .neq (Tm 16) (.cst (.p (.int .u64 0)))),Oc 18 6 (.pick (Tm 10) Kt (Tm 17)),Ot 19 6 18,Om 2 19]) (.ret))⟩
theorem low105 : zf Tryz.prog gl0 105 = some lf105 := Go.Abs.lowF (by kernel_rfl)
def lf151_B0 : LCode := .block 0 (.loop (.seq (.seq (.region [Om 13 6,Oa 14 (.bin .geq (Tm 13) (Kz 0))]) (.cond (Tm 14) (.skip) (.exit 0))) (.seq (.block 1 (.region [Om 18 4,Om 19 6,Om 20 5,Om 21 0,Om 22 6,Oa 23 (.iadr 1 (Tm 21) (Tm 22)),Oq 24 1 false 23,Om 25 1,Oa 26 (.call 160 [Tm 20,Tm 24,Tm 25]),Om 17 26,Ox 27 17 0,Ox 28 17 1,Oa 29 (.iadr 1 (Tm 18) (Tm 19)),Oy 1 29 27,Om 5 28])) (.region [Om 15 6,Oa 16 (.bin .sub (Tm 15) (Kz 1)),Om 6 16]))))
def lf151 : LFunc := ⟨33,[.slot 4,.slot 5],.seq (.region [Oa 4 (.mov (.cst (.tight []))),Oa 5 (.mov (.cst (.p (.int .u64 0))))]) (.seq (.region [Om 7 0,Oa 8 (.len (Tm 7)),Oa 9 (.mksl 1 8 147 (.p (.int .u64 0)) (Tm 8) (Tm 8)),Om 4 9]) (.seq (.seq (.region [Om 10 0,Oa 11 (.len (Tm 10)),Oa 12 (.bin .sub (Tm 11) (Kz 1)),Om 6 12]) (lf151_B0)) (.seq (.region [Om 30 4,Oa 31 (.call 139 [Tm 30]),Om 32 5,Om 4 31,Om 5 32]) (.ret))))⟩
theorem low151 : zf Tryz.prog gl0 151 = some lf151 := Go.Abs.lowF (by kernel_rfl)
def lf154_B0 : LCode := .block 0 (.loop (.block 1 (.seq (.region [Om 27 11,Om 28 4,Oa 29 (.call 143 [Tm 27,Tm 28]),Om 26 29,Ox 30 26 0,Ox 31 26 1,Om 13 30,Om 14 31]) (.seq (.seq (.region [Om 32 13,Om 33 12,Oa 34 (.bin .lss (Tm 32) (Tm 33)),Om 35 34,Oo 36 35 13,Oo 37 35 12,Od 38 35 (.bin .eql (Tm 36) (Tm 37)),Oo 39 35 38,Oj 40 39 14,Oj 41 39 2,Oc 42 39 (.bin .leq (Tm 40) (Tm 41)),Od 43 35 (.pick (Tm 39) (Tm 42) Kg),Ou 44 35 43]) (.cond (Tm 44) (.seq (.region [Om 45 11,Om 10 45]) (.ret)) (.skip))) (.seq (.region [Om 46 11,Oa 47 (.bin .sub (Tm 46) (.cst (.p (.int .u64 1)))),Om 11 47]) (.seq (.region [Oa 15 (.mov (.cst (.p (.int .u64 0))))]) (.seq (.region [Om 49 12,Om 50 3,Oa 51 (.calle 144 [Tm 49,Tm 50,.cst (.p (.int .u64 0))]),Om 48 51,Ox 52 48 0,Ox 53 48 1,Om 12 52,Om 15 53]) (.seq (.region [Om 54 15,Oa 55 (.bin .gtr (Tm 54) (.cst (.p (.int .u64 0))))]) (.cond (Tm 55) (.seq (.region [Om 56 11,Om 10 56]) (.ret)) (.skip))))))))))
def lf154 : LFunc := ⟨57,[.slot 10],.seq (.region [Oa 10 (.mov (.cst (.p (.int .u64 0))))]) (.seq (.seq (.region [Om 16 0,Om 17 3,Oa 18 (.bin .geq (Tm 16) (Tm 17))]) (.cond (Tm 18) (.seq (.region [Oa 10 (.mov (.cst (.p (.int .u64 18446744073709551615))))]) (.ret)) (.skip))) (.seq (.region [Om 20 0,Om 21 1,Om 22 3,Oa 23 (.call 160 [Tm 20,Tm 21,Tm 22]),Om 19 23,Ox 24 19 0,Ox 25 19 1,Om 11 24,Om 12 25]) (lf154_B0)))⟩
theorem low154 : zf Tryz.prog gl0 154 = some lf154 := Go.Abs.lowF (by kernel_rfl)
def lf155_B0 : LCode := .block 0 (.loop (.seq (.region [Oa 17 (.bin .lss (Tm 16) (Tm 15))]) (.seq (.cond (Tm 17) (.skip) (.exit 0)) (.seq (.block 1 (.seq (.region [Om 18 16,Oa 19 (.iadr 1 (Tm 14) (Tm 16)),Oq 20 1 false 19,Om 9 18,Om 10 20]) (.seq (.region [Om 22 10,Om 23 2,Oa 24 (.call 143 [Tm 22,Tm 23]),Om 21 24,Ox 25 21 0,Ox 26 21 1,Om 11 25,Om 12 26]) (.seq (.region [Oa 13 (.mov (.cst (.p (.int .u64 0))))]) (.seq (.region [Om 28 12,Om 29 7,Oa 30 (.calle 144 [Tm 28,Tm 29,.cst (.p (.int .u64 0))]),Om 27 30,Ox 31 27 0,Ox 32 27 1,Om 12 31,Om 13 32]) (.seq (.region [Om 33 11,Om 34 13,Oa 35 (.bin .add (Tm 33) (Tm 34)),Om 7 35]) (.region [Om 37 0,Om 38 9,Om 39 0,Om 40 9,Oa 41 (.iadr 1 (Tm 39) (Tm 40)),Oq 42 1 false 41,Om 43 12,Om 44 8,Oa 45 (.calle 148 [Tm 42,Tm 43,Tm 44]),Om 36 45,Ox 46 36 0,Ox 47 36 1,Oa 48 (.iadr 1 (Tm 37) (Tm 38)),Oy 1 48 46,Om 8 47]))))))) (.region [Oa 49 (.bin .add (Tm 16) (Kz 1)),Om 16 49])))))
def lf155 : LFunc := ⟨67,[.slot 6],.seq (.region [Oa 6 (.mov Kg)]) (.seq (.region [Oa 7 (.mov (.cst (.p (.int .u64 0)))),Oa 8 (.mov (.cst (.p (.int .u64 0))))]) (.seq (.seq (.region [Om 14 1,Oa 15 (.len (Tm 14)),Oa 16 (.mov (Kz 0))]) (lf155_B0)) (.seq (.region [Om 51 0,Om 52 1,Oa 53 (.len (Tm 52)),Om 54 0,Om 55 1,Oa 56 (.len (Tm 55)),Oa 57 (.iadr 1 (Tm 54) (Tm 56)),Oq 58 1 false 57,Om 59 7,Om 60 8,Oa 61 (.calle 148 [Tm 58,Tm 59,Tm 60]),Om 50 61,Ox 62 50 0,Ox 63 50 1,Oa 64 (.iadr 1 (Tm 51) (Tm 53)),Oy 1 64 62,Om 8 63]) (.seq (.region [Om 65 8,Oa 66 (.bin .gtr (Tm 65) (.cst (.p (.int .u64 0)))),Om 6 66]) (.ret)))))⟩
theorem low155 : zf Tryz.prog gl0 155 = some lf155 := Go.Abs.lowF (by kernel_rfl)
def lf156_B0 : LCode := .block 0 (.loop (.seq (.region [Oa 10 (.bin .lss (Tm 9) (Tm 8))]) (.seq (.cond (Tm 10) (.skip) (.exit 0)) (.seq (.block 1 (.seq (.region [Om 11 9,Oa 12 (.iadr 1 (Tm 7) (Tm 9)),Oq 13 1 false 12,Om 5 11,Om 6 13]) (.region [Om 15 0,Om 16 5,Om 17 0,Om 18 5,Oa 19 (.iadr 1 (Tm 17) (Tm 18)),Oq 20 1 false 19,Om 21 6,Om 22 4,Oa 23 (.calle 144 [Tm 20,Tm 21,Tm 22]),Om 14 23,Ox 24 14 0,Ox 25 14 1,Oa 26 (.iadr 1 (Tm 15) (Tm 16)),Oy 1 26 24,Om 4 25]))) (.region [Oa 27 (.bin .add (Tm 9) (Kz 1)),Om 9 27])))))
def lf156 : LFunc := ⟨36,[],.seq (.region [Oa 4 (.mov (.cst (.p (.int .u64 0))))]) (.seq (.seq (.region [Om 7 1,Oa 8 (.len (Tm 7)),Oa 9 (.mov (Kz 0))]) (lf156_B0)) (.region [Om 28 0,Om 29 1,Oa 30 (.len (Tm 29)),Oa 31 (.iadr 1 (Tm 28) (Tm 30)),Oq 32 1 false 31,Om 33 4,Oa 34 (.bin .add (Tm 32) (Tm 33)),Oa 35 (.iadr 1 (Tm 28) (Tm 30)),Oy 1 35 34]))⟩
theorem low156 : zf Tryz.prog gl0 156 = some lf156 := Go.Abs.lowF (by kernel_rfl)
def lf138_B0 : LCode := .block 0 (.loop (.seq (.region [Oa 15 (.bin .lss (Tm 14) (Tm 13))]) (.seq (.cond (Tm 15) (.skip) (.exit 0)) (.seq (.block 1 (.seq (.region [Om 16 14,Oa 17 (.iadr 1 (Tm 12) (Tm 14)),Oq 18 1 false 17,Om 7 16,Om 8 18]) (.seq (.region [Om 20 8,Om 21 2,Oa 22 (.call 143 [Tm 20,Tm 21]),Om 19 22,Ox 23 19 0,Ox 24 19 1,Om 9 23,Om 10 24]) (.seq (.region [Oa 11 (.mov (.cst (.p (.int .u64 0))))]) (.seq (.region [Om 26 10,Om 27 6,Oa 28 (.calle 144 [Tm 26,Tm 27,.cst (.p (.int .u64 0))]),Om 25 28,Ox 29 25 0,Ox 30 25 1,Om 10 29,Om 11 30]) (.seq (.region [Om 31 9,Om 32 11,Oa 33 (.bin .add (Tm 31) (Tm 32)),Om 9 33]) (.seq (.region [Om 35 0,Om 36 7,Om 37 0,Om 38 7,Oa 39 (.iadr 1 (Tm 37) (Tm 38)),Oq 40 1 false 39,Om 41 10,Oa 42 (.calle 144 [Tm 40,Tm 41,.cst (.p (.int .u64 0))]),Om 34 42,Ox 43 34 0,Ox 44 34 1,Oa 45 (.iadr 1 (Tm 35) (Tm 36)),Oy 1 45 43,Om 11 44]) (.region [Om 46 9,Om 47 11,Oa 48 (.bin .add (Tm 46) (Tm 47)),Om 6 48])))))))) (.region [Oa 49 (.bin .add (Tm 14) (Kz 1)),Om 14 49])))))
def lf138 : LFunc := ⟨58,[],.seq (.region [Oa 6 (.mov (.cst (.p (.int .u64 0))))]) (.seq (.seq (.region [Om 12 1,Oa 13 (.len (Tm 12)),Oa 14 (.mov (Kz 0))]) (lf138_B0)) (.region [Om 50 0,Om 51 1,Oa 52 (.len (Tm 51)),Oa 53 (.iadr 1 (Tm 50) (Tm 52)),Oq 54 1 false 53,Om 55 6,Oa 56 (.bin .add (Tm 54) (Tm 55)),Oa 57 (.iadr 1 (Tm 50) (Tm 52)),Oy 1 57 56]))⟩
theorem low138 : zf Tryz.prog gl0 138 = some lf138 := Go.Abs.lowF (by kernel_rfl)
def lf139_B0 : LCode := .block 0 (.loop (.seq (.seq (.region [Om 3 0,Oa 4 (.len (Tm 3)),Oa 5 (.bin .gtr (Tm 4) (Kz 0)),Om 6 5,Oj 7 6 0,Oj 8 6 0,Oc 9 6 (.len (Tm 8)),Oc 10 6 (.bin .sub (Tm 9) (Kz 1)),Oc 11 6 (.iadr 1 (Tm 7) (Tm 10)),Oc 12 6 (.load 1 false (Tm 11)),Oc 13 6 (.bin .eql (Tm 12) (.cst (.p (.int .u64 0)))),Ot 14 6 13]) (.cond (Tm 14) (.skip) (.exit 0))) (.block 1 (.region [Om 15 0,Om 16 0,Oa 17 (.len (Tm 16)),Oa 18 (.bin .sub (Tm 17) (Kz 1)),Oa 19 (.slSl 1 (Tm 15) none (some (Tm 18)) none),Om 0 19]))))
def lf139 : LFunc := ⟨24,[.slot 2],.seq (.region [Oa 2 (.mov (.cst (.tight [])))]) (.seq (lf139_B0) (.seq (.seq (.region [Om 20 0,Oa 21 (.len (Tm 20)),Oa 22 (.bin .eql (Tm 21) (Kz 0))]) (.cond (Tm 22) (.seq (.region [Oa 2 (.mov (.cst (.tight [])))]) (.ret)) (.skip))) (.seq (.region [Om 23 0,Om 2 23]) (.ret))))⟩
theorem low139 : zf Tryz.prog gl0 139 = some lf139 := Go.Abs.lowF (by kernel_rfl)
def lf117 : LFunc := ⟨8,[.slot 2],.seq (.region [Oa 2 (.mov (.cst (.tight [])))]) (.seq (.seq (.region [Om 3 0,Oa 4 (.eqS false (Tm 3) (.cst (.tight [])))]) (.cond (Tm 4) (.seq (.region [Oa 2 (.mov (.cst (.tight [])))]) (.ret)) (.skip))) (.seq (.region [Oa 5 (.buildSl 1 147 (.p (.int .u64 0)) 0 []),Om 6 0,Oa 7 (.app 1 8 147 (Tm 5) (Tm 6)),Om 2 7]) (.ret)))⟩
theorem low117 : zf Tryz.prog gl0 117 = some lf117 := Go.Abs.lowF (by kernel_rfl)
end Go.Proofs.YtgbjjikaenlkmaaGreat

namespace Go.Proofs.YtgbjjikaenlkmaaGreat
open Go Go.Abs Go.Limbs
variable {base : Prot}
set_option maxRecDepth 20000
attribute [local irreducible] vc
attribute [local simp] za zi freezeL fuel zk u64
theorem zB : Tryz.prog.follows .mixedOrders = true := by kernel_rfl
theorem ze : qK base gl0 := fun g c h => .junk _
theorem zs {i : Nat} (h : i < 9223372036854775807) : IntKind.i64.wrap ((i : Int) + 1) = ((i + 1 : Nat) : Int) := by
 rw [IntWalk.i64_in _ (by omega)]; omega
theorem mF {i : Nat} (h : 0 < i) (h2 : i < 9223372036854775807) : IntKind.i64.wrap ((i : Int) - 1) = ((i - 1 : Nat) : Int) := by
 rw [IntWalk.i64_in _ (by omega)]; omega
def zD : AVal → Nat
 | .p (.int _ n) => n.toNat
 | _ => 0
def s9 : AVal → Nat
 | .p (.int _ n) => (n + 1).toNat
 | _ => 0
theorem zZ {α : Type} {l : List α} {i : Nat} {x : α} (h : l[i]? = some x) : ∀ hh, l[i]'hh = x := fun hh => by
 have := List.getElem?_eq_some_iff.1 h
 exact this.2
theorem yl : 1000000000 ≤ maxLen := by decide
def tQ (k : IntKind) : List PVal → Option PVal
 | [.int k' _] => if k' = k then some (.bool false) else none
 | _ => none
theorem nan_u_ok : zG Tryz.prog base 150 (za (tQ .u64)) := by
 refine zd zB Tab.none_ok ze low150 fun args z hs hf => ?_
 unfold tQ at hs
 split at hs
 case h_2 => cases hs
 split at hs
 case isFalse => cases hs
 rename_i e
 subst e
 cases hs
 exact ⟨by simp [lf150], by simp [lf150]⟩
theorem nan_i_ok : zG Tryz.prog base 149 (za (tQ .i64)) := by
 refine zd zB Tab.none_ok ze low149 fun args z hs hf => ?_
 unfold tQ at hs
 split at hs
 case h_2 => cases hs
 split at hs
 case isFalse => cases hs
 rename_i e
 subst e
 cases hs
 exact ⟨by simp [lf149], by simp [lf149]⟩
def uc (a b : Int) : Int := if a < b then -1 else if a = b then 0 else 1
theorem iD (a b : Nat) : uc a b = qm a b := by unfold uc qm; simp only [Int.ofNat_lt, Int.ofNat_inj]
def wY (k : IntKind) : List PVal → Option PVal
 | [.int k' a, .int k'' b] => if k' = k ∧ k'' = k then some (.int .i64 (uc a b)) else none
 | _ => none
def Tnan : Tab := (Tab.none.with 149 (za (tQ .i64))).with 150 (za (tQ .u64))
theorem Tnan_ok : TabOk Tryz.prog base Tnan := Tab.with_ok (Tab.with_ok Tab.none_ok nan_i_ok) nan_u_ok
theorem cS (f : FuncId) (a : List AVal) (H : zb) : Tnan.mu f a H = none := (rfl)
theorem Tnan_i : Tnan.fn 149 = za (tQ .i64) := (rfl)
theorem Tnan_u : Tnan.fn 150 = za (tQ .u64) := (rfl)
theorem oI : zG Tryz.prog base 136 (za (wY .u64)) := by
 refine zd zB Tnan_ok ze low136 fun args z hs hf => ?_
 unfold wY at hs
 split at hs
 case h_2 => cases hs
 rename_i k' a k'' b
 split at hs
 case isFalse => cases hs
 rename_i e
 obtain ⟨rfl, rfl⟩ := e
 cases hs
 refine ⟨by simp [lf136], ?_⟩
 have hn : ∀ x, tQ .u64 [.int .u64 x] = some (.bool false) := fun x => rfl
 by_cases h1 : a < b
 ·simp [lf136, cS, Tnan_u, hn, h1, uc]
 ·by_cases h2 : a = b
  ·subst h2; simp [lf136, cS, Tnan_u, hn, uc]
  ·have h3 : b < a := by omega
   simp [lf136, cS, Tnan_u, hn, h1, h2, h3, uc]
theorem oJ : zG Tryz.prog base 135 (za (wY .i64)) := by
 refine zd zB Tnan_ok ze low135 fun args z hs hf => ?_
 unfold wY at hs
 split at hs
 case h_2 => cases hs
 rename_i k' a k'' b
 split at hs
 case isFalse => cases hs
 rename_i e
 obtain ⟨rfl, rfl⟩ := e
 cases hs
 refine ⟨by simp [lf135], ?_⟩
 have hn : ∀ x, tQ .i64 [.int .i64 x] = some (.bool false) := fun x => rfl
 by_cases h1 : a < b
 ·simp [lf135, cS, Tnan_i, hn, h1, uc]
 ·by_cases h2 : a = b
  ·subst h2; simp [lf135, cS, Tnan_i, hn, uc]
  ·have h3 : b < a := by omega
   simp [lf135, cS, Tnan_i, hn, h1, h2, h3, uc]
def qF : List PVal → Option PVal
 | [.lst es] => match jJ es with | some l => if l.length ≤ 1000000 then some (wD (val l)) else none | none => none
 | _ => none
theorem vg {l : List Nat} (h : Wf l) (h2 : l.length ≤ 1000000) : qF [.lst (l.map u64)] = some (.lst ((zc (val l)).map u64)) := by
 simp only [qF, zX h, if_pos h2]; rfl
theorem cx : zG Tryz.prog base 139 (za qF) := by
 refine zd zB Tab.none_ok ze low139 fun args z hs hf => ?_
 unfold qF at hs
 split at hs
 case h_2 => cases hs
 rename_i es
 split at hs
 case h_2 => cases hs
 rename_i l hd
 split at hs
 case isFalse => cases hs
 rename_i hl
 obtain ⟨rfl, hw⟩ := zI hd
 cases hs
 refine ⟨by simp [lf139], ?_⟩
 simp [lf139]
 simp only [lf139_B0, zr]
 refine zo (fun fr H => ∃ n : Nat, n ≤ l.length ∧ val (l.take n) = val l ∧ fr 0 = .p (.lst ((l.take n).map u64))) (fun fr _ => match fr 0 with | .p (.lst es) => es.length | _ => 0) ⟨l.length, by omega, by simp, by simp⟩ ?_
 rintro fr H ⟨n, hn, hv, h0⟩
 have hlen : (l.take n).length = n := by simp; omega
 by_cases h : 0 < n
 ·obtain ⟨x, hx⟩ : ∃ x, l[n - 1]? = some x := ⟨_, List.getElem?_eq_getElem (by omega)⟩
  have hx' : (l.take n)[n - 1]? = some x := by rw [List.getElem?_take]; simp [show n - 1 < n by omega, hx]
  have hw1 := mF (i := n) h (by omega)
  generalize hL : l.take n = L at *
  have hgx := zZ hx'
  have hlt : n - 1 < L.length := by omega
  by_cases hz : x = 0
  ·subst hz
   simp [h0, hlen, h, hw1, hx']
   refine ⟨⟨n - 1, by omega, ?_, ?_⟩, by omega⟩
   ·have := t6 (a := l) (n := n - 1) hx
    rw [show n - 1 + 1 = n by omega, hL] at this
    rw [← this, hv]
   ·rw [← hL, ← List.map_take, ← List.map_take, List.take_take, Nat.min_eq_left (by omega)]
  ·have hb : ((x : Int) == 0) = false := beq_false_of_ne (by omega)
   have hb2 : ((n : Int) == 0) = false := beq_false_of_ne (by omega)
   have hres : wD (val l) = .lst (L.map u64) := by
    have := t7 (a := l) (n := n) hw (by rw [hL, hv]) (.inr ⟨x, hx, hz⟩)
    rw [hL] at this
    rw [this]; rfl
   simp [h0, hlen, h, hw1, hx', hb, hb2, hres]
 ·have hn0 : n = 0 := by omega
  subst hn0
  have hz : val l = 0 := by rw [← hv]; rfl
  simp [h0, hz, wD, jb, zy]
def jl : List PVal → Option PVal
 | [.lst es] => match jJ es with | some l => some (.bool (decide (l.length ≤ 64) && decide (zc (val l) = l))) | none => none
 | _ => none
theorem te {l : List Nat} (h : Wf l) : zc (val l) = l ↔ l.getLast? ≠ some 0 := by
 constructor
 ·intro e
  rw [← e]
  exact (cg _).2
 ·intro e
  exact mY ⟨h, e⟩
theorem rn : zG Tryz.prog base 105 (za jl) := by
 refine zd zB Tab.none_ok ze low105 fun args z hs hf => ?_
 unfold jl at hs
 split at hs
 case h_2 => cases hs
 rename_i es
 split at hs
 case h_2 => cases hs
 rename_i l hd
 obtain ⟨rfl, hw⟩ := zI hd
 cases hs
 refine ⟨by simp [lf105], ?_⟩
 have hc := te hw
 by_cases h1 : (l.length : Int) ≤ 64
 ·have h1' : l.length ≤ 64 := by omega
  by_cases h0 : l.length = 0
  ·have : l = [] := List.length_eq_zero_iff.1 h0
   subst this
   simp [lf105, qg, zy]
  ·have hw1 := mF (i := l.length) (by omega) (by omega)
   obtain ⟨x, hx⟩ : ∃ x, l[l.length - 1]? = some x := ⟨_, List.getElem?_eq_getElem (by omega)⟩
   have hb2 : ((l.length : Int) == 0) = false := beq_false_of_ne (by omega)
   have hlast : l.getLast? = some x := by rw [List.getLast?_eq_getElem?]; exact hx
   rw [hlast] at hc
   by_cases hz : x = 0
   ·subst hz
    have hne : ¬ zc (val l) = l := fun e => hc.1 e rfl
    have hb : ((0 : Int) != 0) = false := rfl
    simp [lf105, h1, h1', hw1, hx, hb2, hne]
   ·have hb : ((x : Int) != 0) = true := by simp; omega
    have heq : zc (val l) = l := hc.2 (fun e => hz (by simpa using e))
    simp [lf105, h1, h1', hw1, hx, hb, hb2, heq]
 ·have h1' : ¬ l.length ≤ 64 := by omega
  simp [lf105, h1, h1']
def qX : List PVal → Option PVal
 | [.lst xs, .lst ys] => match vM xs, vM ys with | some a, some b => some (.int .i64 (qm a b)) | _, _ => none
 | _ => none
theorem jm {a b : Nat} (ha : len a ≤ 100000) (hb : len b ≤ 100000) : qX [.lst ((zc a).map u64), .lst ((zc b).map u64)] = some (.int .i64 (qm a b)) := by
 simp only [qX, zM ha, zM hb]
def Tcmp : Tab := (Tab.none.with 135 (za (wY .i64))).with 136 (za (wY .u64))
theorem Tcmp_ok : TabOk Tryz.prog base Tcmp := Tab.with_ok (Tab.with_ok Tab.none_ok oJ) oI
theorem Tcmp_mu (f : FuncId) (a : List AVal) (H : zb) : Tcmp.mu f a H = none := (rfl)
theorem Tcmp_i : Tcmp.fn 135 = za (wY .i64) := (rfl)
theorem Tcmp_u : Tcmp.fn 136 = za (wY .u64) := (rfl)
theorem lP (a b : Nat) : wY .u64 [.int .u64 a, .int .u64 b] = some (.int .i64 (qm a b)) := by simp [wY, iD]
theorem lQ (a b : Nat) : wY .i64 [.int .i64 a, .int .i64 b] = some (.int .i64 (qm a b)) := by simp [wY, iD]
theorem td {a b : List Nat} {i x y : Nat} (ha : Wf a) (hb : Wf b) (hd : a.drop (i + 1) = b.drop (i + 1)) (hx : a[i]? = some x) (hy : b[i]? = some y) (h : x ≠ y) : qm (val a) (val b) = qm x y := by
 by_cases h1 : x < y
 ·rw [jY h1, jY (nR ha hd hx hy h1)]
 ·have h2 : y < x := by omega
  rw [cQ h2, cQ (nR hb hd.symm hy hx h2)]
theorem bQ : zG Tryz.prog base 106 (za qX) := by
 refine zd zB Tcmp_ok ze low106 fun args z hs hf => ?_
 unfold qX at hs
 split at hs
 case h_2 => cases hs
 rename_i xs ys
 split at hs
 case h_2 => cases hs
 rename_i a b ha hb
 cases hs
 obtain ⟨rfl, hla⟩ := zE ha
 obtain ⟨rfl, hlb⟩ := zE hb
 refine ⟨by simp [lf106], ?_⟩
 have wa := zC a
 have wb := zC b
 have va := zw a
 have vb := zw b
 have la : len a = (zc a).length := rfl
 have lb : len b = (zc b).length := rfl
 by_cases h : (zc a).length = (zc b).length
 ·have hbn : (((zc a).length : Int) != ((zc b).length : Int)) = false := by simp [h]
  simp [lf106, hbn]
  simp only [lf106_B0, zr]
  refine zo (fun fr H => ∃ n : Nat, n ≤ (zc a).length ∧ (zc a).drop n = (zc b).drop n ∧ fr 0 = .p (.lst ((zc a).map u64)) ∧ fr 1 = .p (.lst ((zc b).map u64)) ∧ fr 5 = .p (.int .i64 ((n : Int) - 1)))
   (fun fr _ => s9 (fr 5)) ⟨(zc a).length, by omega, by rw [List.drop_length, h, List.drop_length], by simp, by simp, ?_⟩ ?_
  ·rw [← h]
   simp [IntWalk.i64_in ((zc a).length - 1) (by omega)]
  rintro fr H ⟨n, hn, hd, h0, h1, h5⟩
  by_cases hn0 : 0 < n
  ·obtain ⟨m, rfl⟩ : ∃ m, n = m + 1 := ⟨n - 1, by omega⟩
   have e5 : (((m + 1 : Nat) : Int) - 1) = (m : Int) := by omega
   rw [e5] at h5
   obtain ⟨x, hx⟩ : ∃ x, (zc a)[m]? = some x := ⟨_, List.getElem?_eq_getElem (by omega)⟩
   obtain ⟨y, hy⟩ : ∃ y, (zc b)[m]? = some y := ⟨_, List.getElem?_eq_getElem (by omega)⟩
   by_cases hxy : x = y
   ·subst hxy
    have hw : IntKind.i64.wrap ((m : Int) - 1) = (m : Int) - 1 := IntWalk.i64_in _ (by omega)
    simp [h0, h1, h5, hx, hy, hw, s9]
    exact ⟨m, by omega, by rw [je hx, je hy, hd], rfl⟩
   ·have hb : ((x : Int) != (y : Int)) = true := by simp; omega
    have hc : qm a b = qm x y := by
     have := td wa wb hd hx hy hxy
     rwa [va, vb] at this
    simp [h0, h1, h5, hx, hy, hb, Tcmp_mu, Tcmp_u, lP, hc]
  ·have : n = 0 := by omega
   subst this
   have e : a = b := by
    rw [List.drop_zero, List.drop_zero] at hd
    rw [← va, ← vb, hd]
   subst e
   simp [h5, cmpI_eq]
 ·have hbn : (((zc a).length : Int) != ((zc b).length : Int)) = true := by simp; omega
  have hc : qm a b = qm (zc a).length (zc b).length := by
   by_cases h1 : (zc a).length < (zc b).length
   ·rw [jY h1, jY (cM h1)]
   ·have h2 : (zc b).length < (zc a).length := by omega
    rw [cQ h2, cQ (cM h2)]
  simp [lf106, hbn, Tcmp_mu, Tcmp_i, lQ, hc]
end Go.Proofs.YtgbjjikaenlkmaaGreat

namespace Go.Proofs.YtgbjjikaenlkmaaGreat
open Go Go.Abs Go.Limbs
variable {base : Prot}
set_option maxRecDepth 20000
attribute [local irreducible] vc
attribute [local simp] za zi freezeL fuel zk u64
def au (n : Nat) : AVal := .p (.int .u64 n)
attribute [local simp] au
def zH (ver : Nat) (l : List Nat) : Ent := ⟨1, ver, false, l.map au, 147⟩
theorem mapO_au (H : zb) (n : Nat) : ∀ l : List Nat, zP (zj H n) (l.map au) = some (l.map u64)
 | [] => rfl
 | x :: r => by simp [au, zP, zj, mapO_au H n r]
theorem zO (H : zb) (n k : Nat) (l : List Nat) : zP (zj H n) (List.take k (l.map au)) = some (List.take k (l.map u64)) := by rw [← List.map_take, mapO_au, List.map_take]
theorem eA (H : zb) (n : Nat) : ∀ l : List Nat, (l.map au).flatMap (zi H n) = []
 | [] => rfl
 | x :: r => by rw [List.map_cons, List.flatMap_cons, eA H n r]; cases n <;> simp [au, zi]
theorem zQ (H : zb) (n k : Nat) (l : List Nat) : (List.take k (l.map au)).flatMap (zi H n) = [] := by rw [← List.map_take, eA]
theorem mr : ∀ ps x, vY ps = some x → xZ Tryz.prog 144 ps x := by
 obtain ⟨fn, hfn⟩ : ∃ fn, Tryz.prog.funcs[144]? = some fn := ⟨_, rfl⟩
 refine add64_ext hfn ?_ ?_ ?_ ?_ <;> (cases hfn; kernel_rfl)
theorem eF : ∀ ps x, uq ps = some x → xZ Tryz.prog 148 ps x := by
 obtain ⟨fn, hfn⟩ : ∃ fn, Tryz.prog.funcs[148]? = some fn := ⟨_, rfl⟩
 refine sub64_ext hfn ?_ ?_ ?_ ?_ <;> (cases hfn; kernel_rfl)
def Tadd : Tab := ((Tab.none.with 139 (za qF)).ext 144 vY).ext 148 uq
theorem o8 : TabOk Tryz.prog base Tadd := Tab.ext_ok (Tab.ext_ok (Tab.with_ok Tab.none_ok cx) mr) eF
theorem o9 (f : FuncId) (a : List AVal) (H : zb) : Tadd.mu f a H = none := (rfl)
theorem nB : Tadd.fn 139 = za qF := (rfl)
theorem lj : Tadd.ex 144 = vY := (rfl)
theorem lh : Tadd.ex 148 = uq := (rfl)
theorem xv {a b : List Nat} {Q : LExit → AFr → zb → Prop} {fr : AFr} {H : zb} (hH : H = [zH 0 (List.replicate (a.length + 1) 0)]) (wa : Wf a) (wb : Wf b) (hla : a.length ≤ 100000)
  (h1 : fr 1 = .p (.lst (b.map u64))) (h5 : fr 5 = .own 0 0 (a.length + 1) 0) (h6 : fr 6 = .p (.int .u64 0)) (h21 : fr 21 = .p (.lst (a.map u64)))
  (h22 : fr 22 = .p (.int .i64 a.length)) (h23 : fr 23 = .p (.int .i64 0)) (h0 : fr 0 = .p (.lst (a.map u64)))
  (hq : ∀ (fr' : AFr) (l : List Nat) (c : Nat), l.length = a.length + 1 → Wf l → c ≤ 1 → val (l.take a.length) + B ^ a.length * c = val a + val (b.take a.length) → fr' 0 = .p (.lst (a.map u64)) →
   fr' 5 = .own 0 0 (a.length + 1) 0 → fr' 6 = .p (.int .u64 c) → Q .normal fr' [zH 0 l]) : vc Tadd lf141_B0 Q fr H := by
 subst hH
 simp only [lf141_B0, zr]
 refine zo (fun fr H => ∃ (i : Nat) (l : List Nat) (c : Nat), i ≤ a.length ∧ l.length = a.length + 1 ∧ Wf l ∧ c ≤ 1 ∧ val (l.take i) + B ^ i * c = val (a.take i) + val (b.take i) ∧ H = [zH 0 l] ∧
   fr 0 = .p (.lst (a.map u64)) ∧ fr 1 = .p (.lst (b.map u64)) ∧ fr 5 = .own 0 0 (a.length + 1) 0 ∧ fr 6 = .p (.int .u64 c) ∧ fr 21 = .p (.lst (a.map u64)) ∧ fr 22 = .p (.int .i64 a.length) ∧ fr 23 = .p (.int .i64 i))
  (fun fr _ => a.length - zD (fr 23)) ⟨0, List.replicate (a.length + 1) 0, 0, by omega, by simp, Wf.zeros _, by omega, by simp [qg], rfl, h0, h1, h5, h6, h21, h22, h23⟩ ?_
 rintro fr H ⟨i, l, c, hi, hl, hwl, hc, hv, rfl, h0, h1, h5, h6, h21, h22, h23⟩
 by_cases h : i < a.length
 ·obtain ⟨x, hx⟩ : ∃ x, a[i]? = some x := ⟨_, List.getElem?_eq_getElem h⟩
  have hxB := wa.get hx
  have hil : i < l.length := by omega
  have hlI : (i : Int) < (a.length : Int) + 1 := by omega
  obtain ⟨o, ho⟩ : ∃ o, l[i]? = some o := ⟨_, List.getElem?_eq_getElem hil⟩
  by_cases hb : i < b.length
  ·obtain ⟨y, hy⟩ : ∃ y, b[i]? = some y := ⟨_, List.getElem?_eq_getElem hb⟩
   have hA := uv (x := x) (y := y) hc
   have gx := zZ hx
   have gy := zZ hy
   have go := zZ ho
   simp [h0, h1, h5, h6, h21, h22, h23, h, hb, gx, gy, hA, hil, hlI, go, zH, lj, zs (i := i) (by omega), zD]
   refine ⟨⟨i + 1, by omega, l.set i (wo x y c), by simp [hl], hwl.set _ (mq _ _ _), jx x y c, cR hxB (wb.get hy) hc, ?_, by rw [List.map_set]; rfl, rfl, by omega⟩, by omega⟩
   rw [z3 hil, zA hx, zA hy, Nat.pow_succ]
   exact mo hv
  ·have hA := uv (x := x) (y := 0) hc
   have hA' : vY [.int .u64 x, .int .u64 0, .int .u64 c] = some (.tup [.int .u64 (wo x 0 c), .int .u64 (jx x 0 c)]) := hA
   have gx := zZ hx
   have go := zZ ho
   simp [h0, h1, h5, h6, h21, h22, h23, h, hb, gx, hA', hil, hlI, go, zH, lj, zs (i := i) (by omega), zD]
   refine ⟨⟨i + 1, by omega, l.set i (wo x 0 c), by simp [hl], hwl.set _ (mq _ _ _), jx x 0 c, cR hxB qf hc, ?_, by rw [List.map_set]; rfl, rfl, by omega⟩, by omega⟩
   rw [z3 hil, zA hx, mG (List.getElem?_eq_none (by omega)), Nat.pow_succ]
   have := mo (x := x) (y := 0) hv
   rw [Nat.mul_zero, Nat.add_zero] at this
   exact this
 ·have hil : i = a.length := by omega
  subst hil
  rw [List.take_of_length_le (Nat.le_refl _)] at hv
  simp [h22, h23]
  exact hq _ l c hl hwl hc hv (by simp [h0]) (by simp [h5]) (by simp [h6])
theorem mul_cap (n : Nat) (h : n ≤ 1000000) : n * 8 ≤ 140737488355328 ∧ n ≤ maxLen := ⟨by omega, Nat.le_trans h (Nat.le_trans (by omega) yl)⟩
theorem wI (n : Nat) (h : n ≤ 1000000) : (n : Int) * 8 ≤ 140737488355328 ∧ (n : Int) ≤ maxLen := by
 have := mul_cap n h
 omega
theorem eE (n : Nat) (h : n ≤ 1000000) : ((n : Int) + 1) * 8 ≤ 140737488355328 ∧ (n : Int) + 1 ≤ maxLen ∧ 0 ≤ (n : Int) + 1 := by
 have h1 := yl
 omega
def bH : List PVal → Option PVal
 | [.lst xs, .lst ys] => match vM xs, vM ys with | some a, some b => some (wD (a + b)) | _, _ => none
 | _ => none
theorem xg {a b : Nat} (ha : len a ≤ 100000) (hb : len b ≤ 100000) : bH [.lst ((zc a).map u64), .lst ((zc b).map u64)] = some (.lst ((zc (a + b)).map u64)) := by
 simp only [bH, zM ha, zM hb]; rfl
theorem aA {a l : List Nat} {c n : Nat} (hl : l.length = a.length + 1) (hw : Wf l) (hc : c ≤ 1) (hle : a.length ≤ 100000) (hv : val (l.take a.length) + B ^ a.length * c = n) :
  ∃ L, (List.map au l).set a.length (AVal.p (.int .u64 c)) = List.map au L ∧ L.length = a.length + 1 ∧ List.take (a.length + 1) (L.map u64) = L.map u64 ∧ qF [.lst (L.map u64)] = some (wD n) := by
 refine ⟨l.set a.length c, by rw [List.map_set]; rfl, by simp [hl], List.take_of_length_le (by simp; omega), ?_⟩
 have h1 := vg (hw.set a.length (show c < B by have := tN; omega)) (by simp; omega)
 have h2 := z3 (l := l) (i := a.length) (by omega) c
 rw [List.take_of_length_le (by simp; omega)] at h2
 rw [h2, hv] at h1
 exact h1
theorem plus_ok : zG Tryz.prog base 141 (za bH) := by
 refine zd zB o8 ze low141 fun args z hs hf => ?_
 unfold bH at hs
 split at hs
 case h_2 => cases hs
 rename_i xs ys
 split at hs
 case h_2 => cases hs
 rename_i a b ha hb
 cases hs
 obtain ⟨rfl, hla⟩ := zE ha
 obtain ⟨rfl, hlb⟩ := zE hb
 refine ⟨by simp [lf141], ?_⟩
 have wa := zC a
 have wb := zC b
 have la : len a = (zc a).length := rfl
 have lb : len b = (zc b).length := rfl
 by_cases h : (zc a).length < (zc b).length
 ·have hcap := eE (zc b).length (by omega)
  have hw := zs (i := (zc b).length) (by omega)
  simp [lf141, h, hcap, hw]
  refine xv (a := zc b) (b := zc a) (by simp [zH]) wb wa (by omega) (by simp) (by simp) (by simp) (by simp) (by simp) (by simp) (by simp) fun fr' l c hl hwl hc hv h0 h5 h6 => ?_
  rw [List.take_of_length_le (by omega : (zc a).length ≤ (zc b).length), zw, zw] at hv
  obtain ⟨o, ho⟩ : ∃ o, l[(zc b).length]? = some o := ⟨_, List.getElem?_eq_getElem (by omega)⟩
  obtain ⟨L, hL, hLl, hT, ht⟩ := aA (a := zc b) (n := a + b) hl hwl hc (by omega) (by omega)
  have hlt : ((zc b).length : Int) < (zc b).length + 1 := by omega
  simp [h0, h5, h6, zH, ho, hlt, hL, hLl, hT, ht, zO, zQ, o9, nB]
 ·have hcap := eE (zc a).length (by omega)
  have hw := zs (i := (zc a).length) (by omega)
  simp [lf141, h, hcap, hw]
  refine xv (a := zc a) (b := zc b) (by simp [zH]) wa wb (by omega) (by simp) (by simp) (by simp) (by simp) (by simp) (by simp) (by simp) fun fr' l c hl hwl hc hv h0 h5 h6 => ?_
  rw [List.take_of_length_le (by omega : (zc b).length ≤ (zc a).length), zw, zw] at hv
  obtain ⟨o, ho⟩ : ∃ o, l[(zc a).length]? = some o := ⟨_, List.getElem?_eq_getElem (by omega)⟩
  obtain ⟨L, hL, hLl, hT, ht⟩ := aA (a := zc a) (n := a + b) hl hwl hc (by omega) (by omega)
  have hlt : ((zc a).length : Int) < (zc a).length + 1 := by omega
  simp [h0, h5, h6, zH, ho, hlt, hL, hLl, hT, ht, zO, zQ, o9, nB]
end Go.Proofs.YtgbjjikaenlkmaaGreat

namespace Go.Proofs.YtgbjjikaenlkmaaGreat
open Go Go.Abs Go.Limbs
variable {base : Prot}
set_option maxRecDepth 20000
attribute [local irreducible] vc
attribute [local simp] za zi freezeL fuel zk u64 au
theorem minus_loop {a b : List Nat} {Q : LExit → AFr → zb → Prop} {fr : AFr} {H : zb} (hH : H = [zH 0 (List.replicate a.length 0)]) (wa : Wf a) (wb : Wf b) (hla : a.length ≤ 100000)
  (h1 : fr 1 = .p (.lst (b.map u64))) (h5 : fr 5 = .own 0 0 a.length 0) (h6 : fr 6 = .p (.int .u64 0)) (h13 : fr 13 = .p (.lst (a.map u64)))
  (h14 : fr 14 = .p (.int .i64 a.length)) (h15 : fr 15 = .p (.int .i64 0))
  (hq : ∀ (fr' : AFr) (l : List Nat) (c : Nat), l.length = a.length → Wf l → c ≤ 1 → val l + val (b.take a.length) = val a + B ^ a.length * c →
   fr' 5 = .own 0 0 a.length 0 → Q .normal fr' [zH 0 l]) : vc Tadd lf142_B0 Q fr H := by
 subst hH
 simp only [lf142_B0, zr]
 refine zo (fun fr H => ∃ (i : Nat) (l : List Nat) (c : Nat), i ≤ a.length ∧ l.length = a.length ∧ Wf l ∧ c ≤ 1 ∧ val (l.take i) + val (b.take i) = val (a.take i) + B ^ i * c ∧ H = [zH 0 l] ∧
   fr 1 = .p (.lst (b.map u64)) ∧ fr 5 = .own 0 0 a.length 0 ∧ fr 6 = .p (.int .u64 c) ∧ fr 13 = .p (.lst (a.map u64)) ∧ fr 14 = .p (.int .i64 a.length) ∧ fr 15 = .p (.int .i64 i))
  (fun fr _ => a.length - zD (fr 15)) ⟨0, List.replicate a.length 0, 0, by omega, by simp, Wf.zeros _, by omega, by simp [qg], rfl, h1, h5, h6, h13, h14, h15⟩ ?_
 rintro fr H ⟨i, l, c, hi, hl, hwl, hc, hv, rfl, h1, h5, h6, h13, h14, h15⟩
 by_cases h : i < a.length
 ·obtain ⟨x, hx⟩ : ∃ x, a[i]? = some x := ⟨_, List.getElem?_eq_getElem h⟩
  have hxB := wa.get hx
  have hil : i < l.length := by omega
  obtain ⟨o, ho⟩ : ∃ o, l[i]? = some o := ⟨_, List.getElem?_eq_getElem hil⟩
  have gx := zZ hx
  have go := zZ ho
  by_cases hb : i < b.length
  ·obtain ⟨y, hy⟩ : ∃ y, b[i]? = some y := ⟨_, List.getElem?_eq_getElem hb⟩
   have hA := uo (x := x) (y := y) hc
   have gy := zZ hy
   simp [h1, h5, h6, h13, h14, h15, h, hb, gx, gy, hA, hil, go, zH, lh, zs (i := i) (by omega), zD]
   refine ⟨⟨i + 1, by omega, l.set i (uJ x y c), by simp [hl], hwl.set _ (cy _ _ _), bz x y c, gh _ _ _, ?_, by rw [List.map_set]; rfl, rfl, by omega⟩, by omega⟩
   rw [z3 hil, zA hx, zA hy, Nat.pow_succ]
   exact rC hxB (wb.get hy) hc hv
  ·have hA := uo (x := x) (y := 0) hc
   have hA' : uq [.int .u64 x, .int .u64 0, .int .u64 c] = some (.tup [.int .u64 (uJ x 0 c), .int .u64 (bz x 0 c)]) := hA
   simp [h1, h5, h6, h13, h14, h15, h, hb, gx, hA', hil, go, zH, lh, zs (i := i) (by omega), zD]
   refine ⟨⟨i + 1, by omega, l.set i (uJ x 0 c), by simp [hl], hwl.set _ (cy _ _ _), bz x 0 c, gh _ _ _, ?_, by rw [List.map_set]; rfl, rfl, by omega⟩, by omega⟩
   rw [z3 hil, zA hx, mG (List.getElem?_eq_none (by omega)), Nat.pow_succ]
   have := rC hxB qf hc hv (y := 0)
   rw [Nat.mul_zero, Nat.add_zero] at this
   exact this
 ·have hil : i = a.length := by omega
  subst hil
  rw [List.take_of_length_le (Nat.le_refl _), List.take_of_length_le (by omega : l.length ≤ a.length)] at hv
  simp [h14, h15]
  exact hq _ l c hl hwl hc hv (by simp [h5])
def kn : List PVal → Option PVal
 | [.lst xs, .lst ys] => match vM xs, vM ys with | some a, some b => if b ≤ a then some (wD (a - b)) else none | _, _ => none
 | _ => none
theorem ut {a b : Nat} (ha : len a ≤ 100000) (hb : len b ≤ 100000) (h : b ≤ a) : kn [.lst ((zc a).map u64), .lst ((zc b).map u64)] = some (.lst ((zc (a - b)).map u64)) := by
 simp only [kn, zM ha, zM hb, if_pos h]; rfl
theorem jS {l : List Nat} {n k : Nat} (hl : l.length = k) (hw : Wf l) (hle : k ≤ 1000000) (hv : val l = n) : List.take k (l.map u64) = l.map u64 ∧ qF [.lst (l.map u64)] = some (wD n) := by
 refine ⟨List.take_of_length_le (by simp; omega), ?_⟩
 have := vg hw (by omega)
 rw [hv] at this
 exact this
theorem aQ : zG Tryz.prog base 142 (za kn) := by
 refine zd zB o8 ze low142 fun args z hs hf => ?_
 unfold kn at hs
 split at hs
 case h_2 => cases hs
 rename_i xs ys
 split at hs
 case h_2 => cases hs
 rename_i a b ha hb
 split at hs
 case isFalse => cases hs
 rename_i hba
 cases hs
 obtain ⟨rfl, hla⟩ := zE ha
 obtain ⟨rfl, hlb⟩ := zE hb
 refine ⟨by simp [lf142], ?_⟩
 have la : len a = (zc a).length := rfl
 have lb : len b = (zc b).length := rfl
 have hcap := wI (zc a).length (by omega)
 simp [lf142, hcap]
 refine minus_loop (a := zc a) (b := zc b) (by simp [zH]) (zC a) (zC b) (by omega) (by simp) (by simp) (by simp) (by simp) (by simp) (by simp) fun fr' l c hl hwl hc hv h5 => ?_
 have hlen := qq hba
 rw [List.take_of_length_le (by omega : (zc b).length ≤ (zc a).length), zw, zw] at hv
 have hvl := ui hwl
 rw [hl] at hvl
 have hc0 : c = 0 := by
  rcases Nat.eq_zero_or_pos c with h | h
  ·exact h
  ·have : c = 1 := by omega
   subst this
   omega
 subst hc0
 obtain ⟨hT, ht⟩ := jS (n := a - b) hl hwl (by omega) (by omega)
 simp [h5, zH, hl, hT, ht, zO, zQ, o9, nB]
def cY (x y : Nat) : Nat := x * y / B
def jU (x y : Nat) : Nat := x * y % B
def yO : List PVal → Option PVal
 | [.int .u64 x, .int .u64 y] => if 0 ≤ x ∧ x.toNat < B ∧ 0 ≤ y ∧ y.toNat < B then some (.tup [.int .u64 (cY x.toNat y.toNat), .int .u64 (jU x.toNat y.toNat)]) else none
 | _ => none
theorem yM {x y : Nat} (hx : x < B) (hy : y < B) : yO [.int .u64 x, .int .u64 y] = some (.tup [.int .u64 (cY x y), .int .u64 (jU x y)]) := by
 have : (0 : Int) ≤ x ∧ (x : Int).toNat < B ∧ (0 : Int) ≤ y ∧ (y : Int).toNat < B := by simp [hx, hy]
 show (if (0 : Int) ≤ x ∧ (x : Int).toNat < B ∧ (0 : Int) ≤ y ∧ (y : Int).toNat < B then _ else none) = _
 rw [if_pos this]
 simp
def yY (x : Nat) : Nat := x % 4294967296
def kH (x : Nat) : Nat := x / 4294967296
theorem bT {x : Nat} (hx : x < B) : IntKind.u64.wrap ((BitVec.ofNat IntKind.u64.bits x &&& 4294967295#IntKind.u64.bits).toNat : Int) = (yY x : Int) := by
 have h := and_wrap (a := x) (b := 4294967295) hx (by decide)
 rw [show (4294967295 : Nat) = 2 ^ 32 - 1 from rfl, Nat.and_two_pow_sub_one_eq_mod, kJ, kJ] at h
 exact h
theorem cJ {x y : Nat} (hx : x < B) (hy : y < B) : IntKind.u64.wrap ((BitVec.ofNat IntKind.u64.bits x ||| BitVec.ofNat IntKind.u64.bits y).toNat : Int) = ((x ||| y : Nat) : Int) := by
 have h := or_wrap hx hy
 rw [kJ, kJ] at h
 exact h
theorem ja {x s : Nat} (h : s ≤ 64) : qw .shr .u64 x s = some (.int .u64 (x / 2 ^ s : Nat)) := by
 have h1 : ¬ (s : Int) < 0 := by omega
 have h2 : min s IntKind.u64.bits = s := Nat.min_eq_left h
 simp only [qw, if_neg h1, Int.toNat_natCast, h2, fdiv_pow]
theorem shr32 (x : Nat) : qw .shr .u64 x 32 = some (.int .u64 (kH x)) := ja (x := x) (s := 32) (by omega)
theorem kC {x s : Nat} (h : s ≤ 64) : qw .shl .u64 x s = some (.int .u64 (x * 2 ^ s % B : Nat)) := by
 have h1 : ¬ (s : Int) < 0 := by omega
 have h2 : min s IntKind.u64.bits = s := Nat.min_eq_left h
 simp only [qw, if_neg h1, Int.toNat_natCast, h2]
 have h3 : (x : Int) * 2 ^ s = ((x * 2 ^ s : Nat) : Int) := by simp
 rw [h3, x7]
theorem sE : zG Tryz.prog base 143 (za yO) := by
 refine zd zB Tab.none_ok ze low143 fun args z hs hf => ?_
 unfold yO at hs
 split at hs
 case h_2 => cases hs
 rename_i x y
 split at hs
 case isFalse => cases hs
 rename_i hc
 cases hs
 obtain ⟨x, rfl⟩ := Int.eq_ofNat_of_zero_le hc.1
 obtain ⟨y, rfl⟩ := Int.eq_ofNat_of_zero_le hc.2.2.1
 simp only [Int.toNat_natCast] at hc ⊢
 obtain ⟨-, hx, -, hy⟩ := hc
 refine ⟨by simp [lf143], ?_⟩
 obtain ⟨q1, q2, q3, q4⟩ := Lib.mul64_hi x y hx hy
 have ml : IntKind.u64.wrap ((x : Int) * y) = (jU x y : Int) := yC x y
 have mx := bT hx
 have my := bT hy
 have hb : kH x * kH y ≤ 18446744065119617025 := Lib.half_mul_le (by unfold kH; rw [qI] at hx; omega) (by unfold kH; rw [qI] at hy; omega)
 have hb2 : kH x * yY y ≤ 18446744065119617025 := Lib.half_mul_le (by unfold kH; rw [qI] at hx; omega) (by unfold yY; omega)
 have hb3 : yY x * kH y ≤ 18446744065119617025 := Lib.half_mul_le (by unfold yY; omega) (by unfold kH; rw [qI] at hy; omega)
 have hlt : cY x y < B := by unfold cY; rw [Nat.div_lt_iff_lt_mul qf]; exact Nat.mul_lt_mul'' hx hy
 rw [show x * y / 18446744073709551616 = cY x y from rfl] at q4
 rw [show x % 4294967296 = yY x from rfl, show y % 4294967296 = yY y from rfl, show x / 4294967296 = kH x from rfl, show y / 4294967296 = kH y from rfl] at *
 obtain ⟨w0, hw0⟩ : ∃ w, w = yY x * yY y := ⟨_, rfl⟩
 obtain ⟨p1, hp1⟩ : ∃ w, w = kH x * yY y := ⟨_, rfl⟩
 obtain ⟨p2, hp2⟩ : ∃ w, w = yY x * kH y := ⟨_, rfl⟩
 obtain ⟨p3, hp3⟩ : ∃ w, w = kH x * kH y := ⟨_, rfl⟩
 rw [← hw0, ← hp1, ← hp2, ← hp3] at q4
 rw [← hw0] at q1
 rw [← hw0, ← hp1] at q2
 rw [← hw0, ← hp1, ← hp2] at q3
 rw [← hp3] at hb
 rw [← hp1] at hb2
 rw [← hp2] at hb3
 rw [show w0 / 4294967296 = kH w0 from rfl] at *
 obtain ⟨t, ht⟩ : ∃ t, t = p1 + kH w0 := ⟨_, rfl⟩
 rw [← ht] at q4 q2 q3
 rw [show t % 4294967296 = yY t from rfl] at q4 q3
 rw [show t / 4294967296 = kH t from rfl] at q4
 obtain ⟨w1, hw1⟩ : ∃ w, w = yY t + p2 := ⟨_, rfl⟩
 rw [← hw1] at q4 q3
 rw [show w1 / 4294967296 = kH w1 from rfl] at q4
 obtain ⟨s1, hs1⟩ : ∃ w, w = p3 + kH t := ⟨_, rfl⟩
 rw [← hs1] at q4
 have e : ∀ {m n k : Nat}, k = m * n → k < B → IntKind.u64.wrap ((m : Int) * n) = (k : Int) := fun {m n k} h h2 => by rw [yC, ← h, Nat.mod_eq_of_lt h2]
 have e2 : ∀ {m n k : Nat}, k = m + n → k < B → IntKind.u64.wrap ((m : Int) + n) = (k : Int) := fun {m n k} h h2 => by rw [du, ← h, Nat.mod_eq_of_lt h2]
 have g0 := e hw0 q1
 have g1 := e hp1 (by rw [qI]; omega)
 have g2 := e2 ht q2
 have g3 := bT (x := t) q2
 have g4 := e hp2 (by rw [qI]; omega)
 have g5 := e2 hw1 q3
 have g6 := e hp3 (by rw [qI]; omega)
 have g7 := e2 hs1 (by omega)
 have g8 := e2 q4.symm hlt
 simp [-BitVec.toNat_and, lf143, shr32, ml, mx, my, g0, g1, g2, g3, g4, g5, g6, g7, g8]
theorem gv {α : Type} {l : List α} {k : Nat} {x : α} (h : l[k]? = some x) : l.set k x = l := by
 refine List.ext_getElem? fun i => ?_
 rw [List.getElem?_set]
 split
 ·rename_i e
  subst e
  have := (List.getElem?_eq_some_iff.1 h).1
  simp only [this, if_true, h]
 ·rfl
def join (p s q : List Nat) : List Nat := p ++ s ++ q
theorem uF {p s q : List Nat} {i : Nat} (h : i < s.length) : (join p s q)[p.length + i]? = s[i]? := by
 unfold join
 rw [List.append_assoc, List.getElem?_append_right (by omega), List.getElem?_append_left (by omega)]
 congr 1
 omega
theorem ym {p s q : List Nat} {i : Nat} (h : i < s.length) (x : Nat) : ((join p s q).map au).set (p.length + i) (AVal.p (.int .u64 x)) = (join p (s.set i x) q).map au := by
 unfold join
 rw [show AVal.p (.int .u64 x) = au x from rfl, ← List.map_set, List.append_assoc, List.append_assoc, List.set_append_right _ _ (by omega), List.set_append_left _ _ (by omega)]
 congr 5
 omega
theorem y3 (l : List Nat) {off n : Nat} (h : off + n ≤ l.length) : l = join (l.take off) ((l.drop off).take n) (l.drop (off + n)) := by
 unfold join
 rw [List.append_assoc, ← List.drop_drop, List.take_append_drop, List.take_append_drop]
theorem join_length (p s q : List Nat) : (join p s q).length = p.length + s.length + q.length := by unfold join; simp; omega
def iA : List AVal → Option (List Nat)
 | [] => some []
 | .p (.int .u64 z) :: r => if 0 ≤ z ∧ z.toNat < B then (match iA r with | some l => some (z.toNat :: l) | none => none) else none
 | _ :: _ => none
theorem iz : ∀ {l : List Nat}, Wf l → iA (l.map au) = some l
 | [], _ => rfl
 | x :: r, h => by
  have hx := h.head
  have : (0 : Int) ≤ (x : Int) ∧ (x : Int).toNat < B := by simpa using hx
  simp only [List.map_cons, au, iA, if_pos this]
  rw [iz h.tail]
  simp
theorem xU : ∀ {es : List AVal} {l : List Nat}, iA es = some l → es = l.map au ∧ Wf l
 | [], l, h => by simp [iA] at h; subst h; exact ⟨rfl, Wf.nil⟩
 | x :: r, l, h => by
  unfold iA at h
  split at h
  ·rename_i e; cases e
  ·rename_i z r' e
   cases e
   split at h
   ·rename_i hz
    cases hd : iA r with
    | none => rw [hd] at h; cases h
    | some l' =>
     rw [hd] at h
     cases h
     obtain ⟨h1, h2⟩ := xU hd
     obtain ⟨m, rfl⟩ := Int.eq_ofNat_of_zero_le hz.1
     exact ⟨by rw [h1]; simp [au], Wf.cons hz.2 h2⟩
   ·cases h
  ·cases h
def lX (H : zb) (k off n ver : Nat) : Option (List Nat) := match H[k]? with
 | some e => if e.size = 1 ∧ e.ver = ver ∧ e.froz = false ∧ e.ty = 147 then (match iA e.elems with | some l => if off + n ≤ l.length ∧ l.length ≤ 1000000 then some l else none | none => none) else none
 | none => none
theorem mO {H : zb} {k off n ver : Nat} {l : List Nat} (h : lX H k off n ver = some l) : H[k]? = some (zH ver l) ∧ Wf l ∧ off + n ≤ l.length ∧ l.length ≤ 1000000 := by
 unfold lX at h
 split at h
 case h_2 => cases h
 rename_i e he
 split at h
 case isFalse => cases h
 rename_i hc
 split at h
 case h_2 => cases h
 rename_i l' hl
 split at h
 case isFalse => cases h
 rename_i hle
 cases h
 obtain ⟨h1, h2⟩ := xU hl
 refine ⟨?_, h2, hle.1, hle.2⟩
 obtain ⟨a, b, c, d, f⟩ := e
 simp only at hc h1
 obtain ⟨rfl, rfl, rfl, rfl⟩ := hc
 rw [he, h1]; rfl
theorem fG {H : zb} {k off n ver : Nat} {l : List Nat} (h : H[k]? = some (zH ver l)) (hw : Wf l) (hl : off + n ≤ l.length) (hm : l.length ≤ 1000000) : lX H k off n ver = some l := by
 unfold lX
 rw [h]
 simp only [zH, iz hw, hl, hm, and_self, if_true]
def part (l : List Nat) (off n v : Nat) : List Nat := join (l.take off) (fix n v) (l.drop (off + n))
theorem fQ {l : List Nat} (h : Wf l) (off n v : Nat) : Wf (part l off n v) := ((h.take off).append (yE n v)).append (h.drop _)
theorem bP {l : List Nat} {off n : Nat} (h : off + n ≤ l.length) (v : Nat) : (part l off n v).length = l.length := by
 unfold part; rw [join_length, qz]; simp; omega
def seg (l : List Nat) (off n : Nat) : Nat := val ((l.drop off).take n)
theorem nq {n : Nat} {H : zb} (h : yb n H) (k ver : Nat) (l : List Nat) : yb n (H.set k (zH ver l)) := by
 intro e he x hx y hy
 rcases List.mem_or_eq_of_mem_set he with h1 | h1
 ·exact h e h1 x hx y hy
 ·subst h1
  simp only [zH, List.mem_map] at hx
  obtain ⟨m, _, rfl⟩ := hx
  simp [au, AVal.cells, PVal.cells] at hy
  subst hy
  exact .p _
def rowM : List AVal → zb → Option (AVal × zb)
 | [.own k off n ver, .p (.lst xs), .p (.int .u64 z)], H => match lX H k off n ver, vM xs with
  | some l, some a => if 0 ≤ z ∧ z.toNat < B ∧ n = len a + 1 then some (.p (.tup []), H.set k (zH ver (part l off n (seg l off n + a * z.toNat)))) else none
  | _, _ => none
 | _, _ => none
theorem rowM_at {H : zb} {k off n ver z a : Nat} {l : List Nat} (h : H[k]? = some (zH ver l)) (hw : Wf l) (hl : off + n ≤ l.length) (hm : l.length ≤ 1000000) (ha : len a ≤ 100000) (hz : z < B) (hn : n = len a + 1) :
  rowM [.own k off n ver, .p (.lst ((zc a).map u64)), .p (.int .u64 z)] H = some (.p (.tup []), H.set k (zH ver (part l off n (seg l off n + a * z)))) := by
 simp only [rowM, fG h hw hl hm, zM ha]
 have : (0 : Int) ≤ z ∧ (z : Int).toNat < B ∧ n = len a + 1 := ⟨by omega, by simpa using hz, hn⟩
 rw [if_pos this]
 simp
def Trow : Tab := Tadd.with 143 (za yO)
theorem oT : TabOk Tryz.prog base Trow := Tab.with_ok o8 sE
theorem Trow_mu (f : FuncId) (a : List AVal) (H : zb) : Trow.mu f a H = none := (rfl)
theorem i7 : Trow.fn 143 = za yO := (rfl)
theorem tw : Trow.ex 144 = vY := (rfl)
theorem i6 : Trow.ex 148 = uq := (rfl)
theorem macH (x z c o : Nat) : cY x z + jx (jU x z) c 0 + jx o (wo (jU x z) c 0) 0 = (x * z + c + o) / B := by
 unfold cY jU jx wo
 simp only [Nat.add_zero]
 exact aS
theorem macL (x z c o : Nat) : wo o (wo (jU x z) c 0) 0 = (x * z + c + o) % B := by
 unfold jU wo
 simp only [Nat.add_zero]
 exact mac_low
theorem wrap_mac {x z c o : Nat} (hx : x < B) (hz : z < B) (hc : c < B) (ho : o < B) :
  IntKind.u64.wrap (IntKind.u64.wrap ((cY x z : Int) + jx (jU x z) c 0) + jx o (wo (jU x z) c 0) 0) = (((x * z + c + o) / B : Nat) : Int) := by
 have h1 := macH x z c o
 have h2 := uD hx hz hc ho
 rw [jj (by omega), jj (by omega), h1]
theorem row_ok : bq Tryz.prog base 138 rowM := by
 refine wC zB oT ze low138 fun args H r H' hs hf hbel => ?_
 unfold rowM at hs
 split at hs
 case h_2 => cases hs
 rename_i k off n ver xs z
 split at hs
 case h_2 => cases hs
 rename_i l a hl ha
 split at hs
 case isFalse => cases hs
 rename_i hz
 cases hs
 obtain ⟨hk, hw, hoff, hmax⟩ := mO hl
 obtain ⟨rfl, hla⟩ := zE ha
 obtain ⟨z, rfl⟩ := Int.eq_ofNat_of_zero_le hz.1
 simp only [Int.toNat_natCast] at hz ⊢
 obtain ⟨-, hzB, hn⟩ := hz
 have hkl : k < H.length := (List.getElem?_eq_some_iff.1 hk).1
 refine ⟨by simp [lf138], by simp, nq hbel _ _ _, .p _, ?_⟩
 have la : len a = (zc a).length := rfl
 have wa := zC a
 obtain ⟨pre, hpre⟩ : ∃ p, p = l.take off := ⟨_, rfl⟩
 obtain ⟨post, hpost⟩ : ∃ p, p = l.drop (off + n) := ⟨_, rfl⟩
 obtain ⟨s0, hs0⟩ : ∃ p, p = (l.drop off).take n := ⟨_, rfl⟩
 have hs0l : s0.length = n := by rw [hs0]; simp; omega
 have hprel : pre.length = off := by rw [hpre]; simp; omega
 have hs0w : Wf s0 := by rw [hs0]; exact (hw.drop _).take _
 have hjoin : l = join pre s0 post := by rw [hpre, hs0, hpost]; exact y3 l hoff
 have hseg : seg l off n = val s0 := by rw [hs0]; rfl
 have hH0 : H = H.set k (zH ver (join pre s0 post)) := by rw [← hjoin]; exact (gv hk).symm
 rw [hseg]
 unfold part
 rw [← hpre, ← hpost]
 simp [lf138]
 simp only [lf138_B0, zr]
 refine zo (fun fr H1 => ∃ (i : Nat) (s : List Nat) (c : Nat), i ≤ len a ∧ s.length = n ∧ Wf s ∧ c < B ∧ val (s.take i) + B ^ i * c = val (s0.take i) + val ((zc a).take i) * z ∧ s.drop i = s0.drop i ∧ H1 = H.set k (zH ver (join pre s post)) ∧
   fr 0 = .own k off n ver ∧ fr 1 = .p (.lst ((zc a).map u64)) ∧ fr 2 = .p (.int .u64 z) ∧ fr 6 = .p (.int .u64 c) ∧ fr 12 = .p (.lst ((zc a).map u64)) ∧ fr 13 = .p (.int .i64 (len a)) ∧ fr 14 = .p (.int .i64 i))
  (fun fr _ => len a - zD (fr 14)) ⟨0, s0, 0, by omega, hs0l, hs0w, qf, by simp [qg], rfl, hH0, by simp, by simp, by simp, by simp, by simp, by simp [la], by simp⟩ ?_
 rintro fr H1 ⟨i, s, c, hi, hsl, hsw, hc, hv, hdr, rfl, h0, h1, h2, h6, h12, h13, h14⟩
 by_cases h : i < len a
 ·obtain ⟨x, hx⟩ : ∃ x, (zc a)[i]? = some x := ⟨_, List.getElem?_eq_getElem (by omega)⟩
  have hxB := wa.get hx
  have his : i < s.length := by omega
  have hin : i < n := by omega
  obtain ⟨o, ho⟩ : ∃ o, s[i]? = some o := ⟨_, List.getElem?_eq_getElem his⟩
  have hoB := hsw.get ho
  have hMul := yM hxB hzB
  have hA1 := jA (x := jU x z) (y := c)
  have hA2 := jA (x := o) (y := wo (jU x z) c 0)
  have hjg := uF (p := pre) (q := post) his
  rw [ho, hprel] at hjg
  have hjs := ym (p := pre) (q := post) his (wo o (wo (jU x z) c 0) 0)
  rw [hprel] at hjs
  obtain ⟨W, hW⟩ : ∃ W, W = join pre s post := ⟨_, rfl⟩
  rw [← hW] at hjg hjs
  simp [h0, h1, h2, h6, h12, h13, h14, h, hx, hMul, hA1, hA2, hin, hkl, ← hW, hjg, zH, Trow_mu, i7, tw, zs (i := i) (by omega), zD]
  refine ⟨⟨i + 1, by omega, s.set i (wo o (wo (jU x z) c 0) 0), by simp [hsl], hsw.set _ (mq _ _ _), (x * z + c + o) / B, uD hxB hzB hc hoB, ?_, ?_, ?_, wrap_mac hxB hzB hc hoB, by omega⟩, by omega⟩
  ·have ho' : s0[i]? = some o := by
    rw [je ho] at hdr
    have := congrArg List.head? hdr
    rw [List.head?_drop] at this
    simpa using this.symm
   rw [z3 his, zA hx, zA ho', macL, Nat.pow_succ]
   exact mac_step hv
  ·rw [List.drop_set_of_lt (by omega)]
   have := congrArg (List.drop 1) hdr
   rw [List.drop_drop, List.drop_drop] at this
   exact this
  ·rw [hjs]
 ·have hil : i = len a := by omega
  subst hil
  rw [List.take_of_length_le (show (zc a).length ≤ len a by omega), zw] at hv
  have his : len a < s.length := by omega
  obtain ⟨o, ho⟩ : ∃ o, s[len a]? = some o := ⟨_, List.getElem?_eq_getElem his⟩
  have hjg := uF (p := pre) (q := post) his
  rw [ho, hprel] at hjg
  have hjs := ym (p := pre) (q := post) his ((o + c) % B)
  rw [hprel] at hjs
  have hfin : s.set (len a) ((o + c) % B) = fix n (val s0 + a * z) := by
   have ho' : s0[len a]? = some o := by
    rw [je ho] at hdr
    have := congrArg List.head? hdr
    rw [List.head?_drop] at this
    simpa using this.symm
   have e1 : val s0 = val (s0.take (len a)) + B ^ len a * o := by
    rw [← zA ho', List.take_of_length_le (by omega)]
   have e2 := z3 his ((o + c) % B)
   rw [List.take_of_length_le (by simp; omega)] at e2
   refine ga (hsw.set _ (Nat.mod_lt _ qf)) (yE _ _) (by simp [qz, hsl]) ?_
   rw [yH, e2, e1, hn, Nat.pow_succ, show val (s0.take (len a)) + B ^ len a * o + a * z = val (s.take (len a)) + B ^ len a * (o + c) by rw [Nat.mul_add]; omega, top_mod (jy hsw _)]
  rw [hfin] at hjs
  obtain ⟨W, hW⟩ : ∃ W, W = join pre s post := ⟨_, rfl⟩
  rw [← hW] at hjg hjs
  have hwr := du o c
  obtain ⟨tp, htp⟩ : ∃ t, t = (o + c) % B := ⟨_, rfl⟩
  rw [← htp] at hwr hjs
  have hnn : ((len a : Nat) : Int) < (len a : Int) + 1 := by omega
  simp [hnn, h0, h1, h6, h13, h14, ← la, hkl, ← hW, hjg, hjs, hn, zH, hwr, yS]
theorem seg_eq {l : List Nat} (h : Wf l) (off n : Nat) : seg l off n = val l / B ^ off % B ^ n := by
 unfold seg
 rw [ez (h.drop off), wP h]
theorem aB {l : List Nat} {off n v : Nat} (h : off + n ≤ l.length) (hv : v < B ^ n) : val (part l off n v) + B ^ off * seg l off n = val l + B ^ off * v := by
 have e : val l = val (join (l.take off) ((l.drop off).take n) (l.drop (off + n))) := by rw [← y3 l h]
 rw [e]
 unfold part join seg
 have h1 : (l.take off).length = off := by simp; omega
 have h2 : ((l.drop off).take n).length = n := by simp; omega
 rw [val_append, val_append, val_append, val_append, List.length_append, List.length_append, qz, h1, h2, yG hv]
 omega
def Tmul : Tab := (Tab.none.with 139 (za qF)).own 138 rowM
theorem Tmul_ok : TabOk Tryz.prog base Tmul := Tab.own_ok (Tab.with_ok Tab.none_ok cx) row_ok
theorem Tmul_row : Tmul.mu 138 = rowM := (rfl)
theorem Tmul_mu (a : List AVal) (H : zb) : Tmul.mu 139 a H = none := (rfl)
theorem Tmul_trim : Tmul.fn 139 = za qF := (rfl)
def wB : List PVal → Option PVal
 | [.lst xs, .lst ys] => match vM xs, vM ys with | some a, some b => some (wD (a * b)) | _, _ => none
 | _ => none
theorem wz {a b : Nat} (ha : len a ≤ 100000) (hb : len b ≤ 100000) : wB [.lst ((zc a).map u64), .lst ((zc b).map u64)] = some (.lst ((zc (a * b)).map u64)) := by
 simp only [wB, zM ha, zM hb]; rfl
theorem lA {a z i la : Nat} {l : List Nat} {t : Nat} (hw : Wf l) (hl : i + (la + 1) ≤ l.length) (ha : a < B ^ la) (hz : z < B) (ht : t < B ^ i) (hv : val l = a * t) :
  val (part l i (la + 1) (seg l i (la + 1) + a * z)) = a * (t + B ^ i * z) := by
 have hs : seg l i (la + 1) < B ^ la := by
  rw [seg_eq hw]
  refine Nat.lt_of_le_of_lt (Nat.mod_le _ _) ?_
  rw [Nat.div_lt_iff_lt_mul (vQ i), hv]
  exact Nat.mul_lt_mul'' ha ht
 have hsum : seg l i (la + 1) + a * z < B ^ (la + 1) := by
  have h1 : (a + 1) * z ≤ B ^ la * z := Nat.mul_le_mul_right _ ha
  have h2 : B ^ la * (z + 1) ≤ B ^ la * B := Nat.mul_le_mul_left _ hz
  rw [Nat.pow_succ]
  rw [Nat.mul_add, Nat.mul_one] at h2
  rw [Nat.add_mul, Nat.one_mul] at h1
  omega
 have := aB hl hsum
 rw [hv, Nat.mul_add] at this
 rw [Nat.mul_add, Nat.mul_left_comm a]
 omega
theorem rq : zG Tryz.prog base 109 (za wB) := by
 refine zd zB Tmul_ok ze low109 fun args z hs hf => ?_
 unfold wB at hs
 split at hs
 case h_2 => cases hs
 rename_i xs ys
 split at hs
 case h_2 => cases hs
 rename_i a b ha hb
 cases hs
 obtain ⟨rfl, hla⟩ := zE ha
 obtain ⟨rfl, hlb⟩ := zE hb
 refine ⟨by simp [lf109], ?_⟩
 have la : (zc a).length = len a := rfl
 have lb : (zc b).length = len b := rfl
 have wb := zC b
 obtain ⟨M, hM⟩ : ∃ M, M = len a + len b := ⟨_, rfl⟩
 obtain ⟨N, hN⟩ : ∃ N, N = M + 1 := ⟨_, rfl⟩
 have hcap := wI N (by omega)
 have hw1 : IntKind.i64.wrap ((len a : Int) + len b) = (M : Int) := by rw [← Int.natCast_add, ← hM]; exact yD (by omega)
 have hw2 : IntKind.i64.wrap ((M : Int) + 1) = (N : Int) := by rw [zs (i := M) (by omega), hN]
 simp [lf109, la, lb, hw1, hw2, hcap]
 simp only [lf109_B0, zr]
 refine zo (fun fr H => ∃ (i : Nat) (l : List Nat), i ≤ len b ∧ l.length = N ∧ Wf l ∧ val l = a * val ((zc b).take i) ∧ H = [zH 0 l] ∧ fr 0 = .p (.lst ((zc a).map u64)) ∧ fr 5 = .own 0 0 N 0 ∧
   fr 15 = .p (.lst ((zc b).map u64)) ∧ fr 16 = .p (.int .i64 (len b)) ∧ fr 17 = .p (.int .i64 i))
  (fun fr _ => len b - zD (fr 17)) ⟨0, List.replicate N 0, by omega, by simp, Wf.zeros _, by simp [kd, qg], by simp [zH], by simp, by simp, by simp, by simp, by simp⟩ ?_
 rintro fr H ⟨i, l, hi, hl, hwl, hv, rfl, h0, h5, h15, h16, h17⟩
 by_cases h : i < len b
 ·obtain ⟨x, hx⟩ : ∃ x, (zc b)[i]? = some x := ⟨_, List.getElem?_eq_getElem (by omega)⟩
  have hxB := wb.get hx
  obtain ⟨J, hJ⟩ : ∃ J, J = i + len a := ⟨_, rfl⟩
  obtain ⟨K, hK⟩ : ∃ K, K = J + 1 := ⟨_, rfl⟩
  have hw3 : IntKind.i64.wrap ((i : Int) + len a) = (J : Int) := by rw [← Int.natCast_add, ← hJ]; exact yD (by omega)
  have hw4 : IntKind.i64.wrap ((J : Int) + 1) = (K : Int) := by rw [zs (i := J) (by omega), hK]
  have hiK : i ≤ K := by omega
  have hKN : K ≤ N := by omega
  have hsub : ((K : Int) - i).toNat = len a + 1 := by omega
  have hrow := rowM_at (H := [zH 0 l]) (k := 0) (off := i) (n := len a + 1) (ver := 0) (z := x) (a := a) (l := l) rfl hwl (by omega) (by omega) hla hxB rfl
  have hst := lA hwl (by omega) (vt a) hxB (jy wb i) hv (z := x)
  obtain ⟨L, hL⟩ : ∃ L, L = part l i (len a + 1) (seg l i (len a + 1) + a * x) := ⟨_, rfl⟩
  have hLw : Wf L := by rw [hL]; exact fQ hwl _ _ _
  have hLl : L.length = N := by rw [hL, bP (by omega), hl]
  rw [← hL] at hrow hst
  simp [zH] at hrow
  simp [h0, h5, h15, h16, h17, h, zZ hx, la, lb, hw3, hw4, hiK, hKN, hsub, hrow, zH, Tmul_row, zs (i := i) (by omega), zD]
  exact ⟨⟨i + 1, by omega, L, hLl, hLw, by rw [zA hx]; exact hst, rfl, by omega⟩, by omega⟩
 ·have hil : i = len b := by omega
  subst hil
  rw [List.take_of_length_le (by omega), zw] at hv
  obtain ⟨hT, ht⟩ := jS hl hwl (by omega) hv
  simp [h5, h16, h17, zH, hl, hT, ht, zO, zQ, Tmul_mu, Tmul_trim]
theorem cO {s s0 : List Nat} {i o : Nat} (hdr : s.drop i = s0.drop i) (ho : s[i]? = some o) (x : Nat) : s0[i]? = some o ∧ (s.set i x).drop (i + 1) = s0.drop (i + 1) := by
 constructor
 ·rw [je ho] at hdr
  have := congrArg List.head? hdr
  rw [List.head?_drop] at this
  simpa using this.symm
 ·rw [List.drop_set_of_lt (by omega)]
  have := congrArg (List.drop 1) hdr
  rw [List.drop_drop, List.drop_drop] at this
  exact this
def xz : List AVal → zb → Option (AVal × zb)
 | [.own k off n ver, .p (.lst xs)], H => match lX H k off n ver, vM xs with
  | some l, some a => if n = len a + 1 then some (.p (.tup []), H.set k (zH ver (part l off n (seg l off n + a)))) else none
  | _, _ => none
 | _, _ => none
theorem moreM_at {H : zb} {k off n ver a : Nat} {l : List Nat} (h : H[k]? = some (zH ver l)) (hw : Wf l) (hl : off + n ≤ l.length) (hm : l.length ≤ 1000000) (ha : len a ≤ 100000) (hn : n = len a + 1) :
  xz [.own k off n ver, .p (.lst ((zc a).map u64))] H = some (.p (.tup []), H.set k (zH ver (part l off n (seg l off n + a)))) := by
 simp only [xz, fG h hw hl hm, zM ha]
 rw [if_pos hn]
theorem more_ok : bq Tryz.prog base 156 xz := by
 refine wC zB oT ze low156 fun args H r H' hs hf hbel => ?_
 unfold xz at hs
 split at hs
 case h_2 => cases hs
 rename_i k off n ver xs
 split at hs
 case h_2 => cases hs
 rename_i l a hl ha
 split at hs
 case isFalse => cases hs
 rename_i hn
 cases hs
 obtain ⟨hk, hw, hoff, hmax⟩ := mO hl
 obtain ⟨rfl, hla⟩ := zE ha
 have hkl : k < H.length := (List.getElem?_eq_some_iff.1 hk).1
 refine ⟨by simp [lf156], by simp, nq hbel _ _ _, .p _, ?_⟩
 have la : len a = (zc a).length := rfl
 have wa := zC a
 obtain ⟨pre, hpre⟩ : ∃ p, p = l.take off := ⟨_, rfl⟩
 obtain ⟨post, hpost⟩ : ∃ p, p = l.drop (off + n) := ⟨_, rfl⟩
 obtain ⟨s0, hs0⟩ : ∃ p, p = (l.drop off).take n := ⟨_, rfl⟩
 have hs0l : s0.length = n := by rw [hs0]; simp; omega
 have hprel : pre.length = off := by rw [hpre]; simp; omega
 have hs0w : Wf s0 := by rw [hs0]; exact (hw.drop _).take _
 have hjoin : l = join pre s0 post := by rw [hpre, hs0, hpost]; exact y3 l hoff
 have hseg : seg l off n = val s0 := by rw [hs0]; rfl
 have hH0 : H = H.set k (zH ver (join pre s0 post)) := by rw [← hjoin]; exact (gv hk).symm
 rw [hseg]
 unfold part
 rw [← hpre, ← hpost]
 simp [lf156]
 simp only [lf156_B0, zr]
 refine zo (fun fr H1 => ∃ (i : Nat) (s : List Nat) (c : Nat), i ≤ len a ∧ s.length = n ∧ Wf s ∧ c ≤ 1 ∧ val (s.take i) + B ^ i * c = val (s0.take i) + val ((zc a).take i) ∧ s.drop i = s0.drop i ∧ H1 = H.set k (zH ver (join pre s post)) ∧
   fr 0 = .own k off n ver ∧ fr 1 = .p (.lst ((zc a).map u64)) ∧ fr 4 = .p (.int .u64 c) ∧ fr 7 = .p (.lst ((zc a).map u64)) ∧ fr 8 = .p (.int .i64 (len a)) ∧ fr 9 = .p (.int .i64 i))
  (fun fr _ => len a - zD (fr 9)) ⟨0, s0, 0, by omega, hs0l, hs0w, by omega, by simp [qg], rfl, hH0, by simp, by simp, by simp, by simp, by simp [la], by simp⟩ ?_
 rintro fr H1 ⟨i, s, c, hi, hsl, hsw, hc, hv, hdr, rfl, h0, h1, h4, h7, h8, h9⟩
 by_cases h : i < len a
 ·obtain ⟨x, hx⟩ : ∃ x, (zc a)[i]? = some x := ⟨_, List.getElem?_eq_getElem (by omega)⟩
  have hxB := wa.get hx
  have his : i < s.length := by omega
  have hin : i < n := by omega
  obtain ⟨o, ho⟩ : ∃ o, s[i]? = some o := ⟨_, List.getElem?_eq_getElem his⟩
  have hoB := hsw.get ho
  have hA := uv (x := o) (y := x) hc
  have hjg := uF (p := pre) (q := post) his
  rw [ho, hprel] at hjg
  have hjs := ym (p := pre) (q := post) his (wo o x c)
  rw [hprel] at hjs
  obtain ⟨W, hW⟩ : ∃ W, W = join pre s post := ⟨_, rfl⟩
  rw [← hW] at hjg hjs
  obtain ⟨d1, d2⟩ := cO hdr ho (wo o x c)
  simp [h0, h1, h4, h7, h8, h9, h, hx, hA, hin, hkl, ← hW, hjg, zH, tw, zs (i := i) (by omega), zD]
  refine ⟨⟨i + 1, by omega, s.set i (wo o x c), by simp [hsl], hsw.set _ (mq _ _ _), jx o x c, cR hoB hxB hc, ?_, d2, by rw [hjs], rfl, by omega⟩, by omega⟩
  rw [z3 his, zA hx, zA d1, Nat.pow_succ]
  exact mo hv
 ·have hil : i = len a := by omega
  subst hil
  rw [List.take_of_length_le (show (zc a).length ≤ len a by omega), zw] at hv
  have his : len a < s.length := by omega
  obtain ⟨o, ho⟩ : ∃ o, s[len a]? = some o := ⟨_, List.getElem?_eq_getElem his⟩
  have hjg := uF (p := pre) (q := post) his
  rw [ho, hprel] at hjg
  have hjs := ym (p := pre) (q := post) his ((o + c) % B)
  rw [hprel] at hjs
  have hfin : s.set (len a) ((o + c) % B) = fix n (val s0 + a) := by
   obtain ⟨ho', -⟩ := cO hdr ho 0
   have e1 : val s0 = val (s0.take (len a)) + B ^ len a * o := by
    rw [← zA ho', List.take_of_length_le (by omega)]
   have e2 := z3 his ((o + c) % B)
   rw [List.take_of_length_le (by simp; omega)] at e2
   refine ga (hsw.set _ (Nat.mod_lt _ qf)) (yE _ _) (by simp [qz, hsl]) ?_
   rw [yH, e2, e1, hn, Nat.pow_succ, show val (s0.take (len a)) + B ^ len a * o + a = val (s.take (len a)) + B ^ len a * (o + c) by rw [Nat.mul_add]; omega, top_mod (jy hsw _)]
  rw [hfin] at hjs
  obtain ⟨W, hW⟩ : ∃ W, W = join pre s post := ⟨_, rfl⟩
  rw [← hW] at hjg hjs
  have hwr := du o c
  obtain ⟨tp, htp⟩ : ∃ t, t = (o + c) % B := ⟨_, rfl⟩
  rw [← htp] at hwr hjs
  have hnn : ((len a : Nat) : Int) < (len a : Int) + 1 := by omega
  simp [hnn, h0, h1, h4, h8, h9, ← la, hkl, ← hW, hjg, hjs, hn, zH, hwr, yS]
def lessM : List AVal → zb → Option (AVal × zb)
 | [.own k off n ver, .p (.lst xs), .p (.int .u64 z)], H => match lX H k off n ver, vM xs with
  | some l, some a => if 0 ≤ z ∧ z.toNat < B ∧ n = len a + 1 then
    some (.p (.bool (decide (seg l off n < a * z.toNat))), H.set k (zH ver (part l off n (seg l off n + B ^ n - a * z.toNat)))) else none
  | _, _ => none
 | _, _ => none
theorem lessM_at {H : zb} {k off n ver z a : Nat} {l : List Nat} (h : H[k]? = some (zH ver l)) (hw : Wf l) (hl : off + n ≤ l.length) (hm : l.length ≤ 1000000) (ha : len a ≤ 100000) (hz : z < B) (hn : n = len a + 1) :
  lessM [.own k off n ver, .p (.lst ((zc a).map u64)), .p (.int .u64 z)] H = some (.p (.bool (decide (seg l off n < a * z))), H.set k (zH ver (part l off n (seg l off n + B ^ n - a * z)))) := by
 simp only [lessM, fG h hw hl hm, zM ha]
 have : (0 : Int) ≤ z ∧ (z : Int).toNat < B ∧ n = len a + 1 := ⟨by omega, by simpa using hz, hn⟩
 rw [if_pos this]
 simp
theorem lessH (y z c : Nat) : cY y z + jx (jU y z) c 0 = (y * z + c) / B := by
 unfold cY jU jx
 simp only [Nat.add_zero]
 exact less_high
theorem lessL (y z c : Nat) : wo (jU y z) c 0 = (y * z + c) % B := by
 unfold jU wo
 simp only [Nat.add_zero]
 exact less_low
theorem wrap_less {y z c : Nat} (hy : y < B) (hz : z < B) (hc : c < B) : IntKind.u64.wrap ((cY y z : Int) + jx (jU y z) c 0) = (((y * z + c) / B : Nat) : Int) := by
 have h2 := uD hy hz hc qf
 rw [Nat.add_zero] at h2
 rw [jj (by rw [lessH]; exact h2), lessH]
theorem less_end {n b z w v0 vf : Nat} (hv : vf + b * z = v0 + B ^ n * w) (hf : vf < B ^ n) (hb : b * z < B ^ n) (hw : w ≤ 1) : decide (0 < w) = decide (v0 < b * z) ∧ (v0 + B ^ n - b * z) % B ^ n = vf := by
 rcases (by omega : w = 0 ∨ w = 1) with rfl | rfl
 ·refine ⟨decide_eq_decide.2 ⟨fun h => by omega, fun h => by omega⟩, ?_⟩
  rw [show v0 + B ^ n - b * z = vf + B ^ n by omega, Nat.add_mod_right, Nat.mod_eq_of_lt hf]
 ·refine ⟨decide_eq_decide.2 ⟨fun h => by omega, fun h => by omega⟩, ?_⟩
  rw [show v0 + B ^ n - b * z = vf by omega, Nat.mod_eq_of_lt hf]
theorem less_ok : bq Tryz.prog base 155 lessM := by
 refine wC zB oT ze low155 fun args H r H' hs hf hbel => ?_
 unfold lessM at hs
 split at hs
 case h_2 => cases hs
 rename_i k off n ver xs z
 split at hs
 case h_2 => cases hs
 rename_i l a hl ha
 split at hs
 case isFalse => cases hs
 rename_i hz
 cases hs
 obtain ⟨hk, hw, hoff, hmax⟩ := mO hl
 obtain ⟨rfl, hla⟩ := zE ha
 obtain ⟨z, rfl⟩ := Int.eq_ofNat_of_zero_le hz.1
 simp only [Int.toNat_natCast] at hz ⊢
 obtain ⟨-, hzB, hn⟩ := hz
 have hkl : k < H.length := (List.getElem?_eq_some_iff.1 hk).1
 refine ⟨by simp [lf155], by simp, nq hbel _ _ _, .p _, ?_⟩
 have la : len a = (zc a).length := rfl
 have wa := zC a
 obtain ⟨pre, hpre⟩ : ∃ p, p = l.take off := ⟨_, rfl⟩
 obtain ⟨post, hpost⟩ : ∃ p, p = l.drop (off + n) := ⟨_, rfl⟩
 obtain ⟨s0, hs0⟩ : ∃ p, p = (l.drop off).take n := ⟨_, rfl⟩
 have hs0l : s0.length = n := by rw [hs0]; simp; omega
 have hprel : pre.length = off := by rw [hpre]; simp; omega
 have hs0w : Wf s0 := by rw [hs0]; exact (hw.drop _).take _
 have hjoin : l = join pre s0 post := by rw [hpre, hs0, hpost]; exact y3 l hoff
 have hseg : seg l off n = val s0 := by rw [hs0]; rfl
 have hH0 : H = H.set k (zH ver (join pre s0 post)) := by rw [← hjoin]; exact (gv hk).symm
 rw [hseg]
 unfold part
 rw [← hpre, ← hpost]
 simp [lf155]
 simp only [lf155_B0, zr]
 refine zo (fun fr H1 => ∃ (i : Nat) (s : List Nat) (c w : Nat), i ≤ len a ∧ s.length = n ∧ Wf s ∧ c < B ∧ w ≤ 1 ∧ val (s.take i) + val ((zc a).take i) * z = val (s0.take i) + B ^ i * (c + w) ∧ s.drop i = s0.drop i ∧ H1 = H.set k (zH ver (join pre s post)) ∧
   fr 0 = .own k off n ver ∧ fr 1 = .p (.lst ((zc a).map u64)) ∧ fr 2 = .p (.int .u64 z) ∧ fr 7 = .p (.int .u64 c) ∧ fr 8 = .p (.int .u64 w) ∧ fr 14 = .p (.lst ((zc a).map u64)) ∧ fr 15 = .p (.int .i64 (len a)) ∧ fr 16 = .p (.int .i64 i))
  (fun fr _ => len a - zD (fr 16)) ⟨0, s0, 0, 0, by omega, hs0l, hs0w, qf, by omega, by simp [qg], rfl, hH0, by simp, by simp, by simp, by simp, by simp, by simp, by simp [la], by simp⟩ ?_
 rintro fr H1 ⟨i, s, c, w, hi, hsl, hsw, hc, hwl, hv, hdr, rfl, h0, h1, h2, h7, h8, h14, h15, h16⟩
 by_cases h : i < len a
 ·obtain ⟨x, hx⟩ : ∃ x, (zc a)[i]? = some x := ⟨_, List.getElem?_eq_getElem (by omega)⟩
  have hxB := wa.get hx
  have his : i < s.length := by omega
  have hin : i < n := by omega
  obtain ⟨o, ho⟩ : ∃ o, s[i]? = some o := ⟨_, List.getElem?_eq_getElem his⟩
  have hoB := hsw.get ho
  have hMul := yM hxB hzB
  have hA1 := jA (x := jU x z) (y := c)
  have hA2 := uo (x := o) (y := wo (jU x z) c 0) hwl
  have hjg := uF (p := pre) (q := post) his
  rw [ho, hprel] at hjg
  have hjs := ym (p := pre) (q := post) his (uJ o (wo (jU x z) c 0) w)
  rw [hprel] at hjs
  obtain ⟨W, hW⟩ : ∃ W, W = join pre s post := ⟨_, rfl⟩
  rw [← hW] at hjg hjs
  obtain ⟨d1, d2⟩ := cO hdr ho (uJ o (wo (jU x z) c 0) w)
  simp [h0, h1, h2, h7, h8, h14, h15, h16, h, hx, hMul, hA1, hA2, hin, hkl, ← hW, hjg, zH, Trow_mu, i7, tw, i6, zs (i := i) (by omega), zD]
  refine ⟨⟨i + 1, by omega, s.set i (uJ o (wo (jU x z) c 0) w), by simp [hsl], hsw.set _ (cy _ _ _), (x * z + c) / B, by have := uD hxB hzB hc qf; rwa [Nat.add_zero] at this,
   bz o (wo (jU x z) c 0) w, gh _ _ _, ?_, d2, by rw [hjs], wrap_less hxB hzB hc, rfl, by omega⟩, by omega⟩
  rw [z3 his, zA hx, zA d1, Nat.pow_succ, lessL]
  exact less_step hoB hwl hv
 ·have hil : i = len a := by omega
  subst hil
  rw [List.take_of_length_le (show (zc a).length ≤ len a by omega), zw] at hv
  have his : len a < s.length := by omega
  obtain ⟨o, ho⟩ : ∃ o, s[len a]? = some o := ⟨_, List.getElem?_eq_getElem his⟩
  have hoB := hsw.get ho
  have hjg := uF (p := pre) (q := post) his
  rw [ho, hprel] at hjg
  have hjs := ym (p := pre) (q := post) his (uJ o c w)
  rw [hprel] at hjs
  have hA := uo (x := o) (y := c) hwl
  obtain ⟨ho', -⟩ := cO hdr ho 0
  have e1 : val s0 = val (s0.take (len a)) + B ^ len a * o := by
   rw [← zA ho', List.take_of_length_le (by omega)]
  have e2 := z3 his (uJ o c w)
  rw [List.take_of_length_le (by simp; omega)] at e2
  have hvf : val (s.set (len a) (uJ o c w)) + a * z = val s0 + B ^ n * bz o c w := by
   have e3 := lB hoB hc hwl
   rw [e1, e2, hn, Nat.pow_succ]
   generalize uJ o c w = d at *
   generalize bz o c w = f at *
   have e4 : B ^ len a * (d + (c + w)) = B ^ len a * (o + B * f) := by rw [e3]
   rw [Nat.mul_add, Nat.mul_add _ o, ← Nat.mul_assoc] at e4
   omega
  have hlt := ui (hsw.set (len a) (cy o c w))
  rw [List.length_set, hsl] at hlt
  have hbz : a * z < B ^ n := by
   rw [hn, Nat.pow_succ]
   exact Nat.mul_lt_mul'' (vt a) hzB
  obtain ⟨hdec, hmod⟩ := less_end hvf hlt hbz (gh _ _ _)
  have hfin : s.set (len a) (uJ o c w) = fix n (val s0 + B ^ n - a * z) := by
   refine ga (hsw.set _ (cy _ _ _)) (yE _ _) (by simp [qz, hsl]) ?_
   rw [yH, hmod]
  rw [hfin] at hjs
  obtain ⟨W, hW⟩ : ∃ W, W = join pre s post := ⟨_, rfl⟩
  rw [← hW] at hjg hjs
  have hnn : ((len a : Nat) : Int) < (len a : Int) + 1 := by omega
  subst hn
  simp [hnn, h0, h1, h7, h8, h15, h16, ← la, hkl, ← hW, hjg, hjs, hA, zH, i6, yS]
  exact decide_eq_decide.1 hdec
def uu : List PVal → Option PVal
 | [.int .u64 x] => if 0 ≤ x ∧ x.toNat < B then some (.int .i64 (size x.toNat)) else none
 | _ => none
theorem rY {x : Nat} (hx : x < B) : uu [.int .u64 x] = some (.int .i64 (size x)) := by
 show (if (0 : Int) ≤ x ∧ (x : Int).toNat < B then _ else none) = _
 rw [if_pos ⟨by omega, by simpa using hx⟩]
 simp
def tab8 : List UInt8 := [0, 1, 2, 2, 3, 3, 3, 3, 4, 4, 4, 4, 4, 4, 4, 4, 5, 5, 5, 5, 5, 5, 5, 5, 5, 5, 5, 5, 5, 5, 5, 5, 6, 6, 6, 6, 6, 6, 6, 6, 6, 6, 6, 6, 6, 6, 6, 6, 6, 6, 6, 6, 6, 6, 6, 6, 6, 6, 6, 6, 6, 6, 6, 6, 7, 7, 7, 7, 7, 7, 7, 7, 7, 7, 7, 7, 7, 7, 7, 7, 7, 7, 7, 7, 7, 7, 7, 7, 7, 7, 7, 7, 7, 7, 7, 7, 7, 7, 7, 7, 7, 7, 7, 7, 7, 7, 7, 7, 7, 7, 7, 7, 7, 7, 7, 7, 7, 7, 7, 7, 7, 7, 7, 7, 7, 7, 7, 7, 8, 8, 8, 8, 8, 8, 8, 8, 8, 8, 8, 8, 8, 8, 8, 8, 8, 8, 8, 8, 8, 8, 8, 8, 8, 8, 8, 8, 8, 8, 8, 8, 8, 8, 8, 8, 8, 8, 8, 8, 8, 8, 8, 8, 8, 8, 8, 8, 8, 8, 8, 8, 8, 8, 8, 8, 8, 8, 8, 8, 8, 8, 8, 8, 8, 8, 8, 8, 8, 8, 8, 8, 8, 8, 8, 8, 8, 8, 8, 8, 8, 8, 8, 8, 8, 8, 8, 8, 8, 8, 8, 8, 8, 8, 8, 8, 8, 8, 8, 8, 8, 8, 8, 8, 8, 8, 8, 8, 8, 8, 8, 8, 8, 8, 8, 8, 8, 8, 8, 8, 8, 8, 8, 8, 8, 8, 8, 8]
theorem tab8_get : ∀ y, y < 256 → tab8[y]? = some (UInt8.ofNat (size y)) := by decide +kernel
theorem gr {y : Nat} (h : y < 256) : size y ≤ 8 := wQ.2 (by omega)
theorem uL {y : Nat} (h : y < 256) : ∃ b : UInt8, [0, 1, 2, 2, 3, 3, 3, 3, 4, 4, 4, 4, 4, 4, 4, 4, 5, 5, 5, 5, 5, 5, 5, 5, 5, 5, 5, 5, 5, 5, 5, 5, 6, 6, 6, 6, 6, 6, 6, 6, 6, 6, 6, 6, 6, 6, 6, 6, 6, 6, 6, 6, 6, 6, 6, 6, 6, 6, 6, 6, 6, 6, 6, 6, 7, 7, 7, 7, 7, 7, 7, 7, 7, 7, 7, 7, 7, 7, 7, 7, 7, 7, 7, 7, 7, 7, 7, 7, 7, 7, 7, 7, 7, 7, 7, 7, 7, 7, 7, 7, 7, 7, 7, 7, 7, 7, 7, 7, 7, 7, 7, 7, 7, 7, 7, 7, 7, 7, 7, 7, 7, 7, 7, 7, 7, 7, 7, 7, 8, 8, 8, 8, 8, 8, 8, 8, 8, 8, 8, 8, 8, 8, 8, 8, 8, 8, 8, 8, 8, 8, 8, 8, 8, 8, 8, 8, 8, 8, 8, 8, 8, 8, 8, 8, 8, 8, 8, 8, 8, 8, 8, 8, 8, 8, 8, 8, 8, 8, 8, 8, 8, 8, 8, 8, 8, 8, 8, 8, 8, 8, 8, 8, 8, 8, 8, 8, 8, 8, 8, 8, 8, 8, 8, 8, 8, 8, 8, 8, 8, 8, 8, 8, 8, 8, 8, 8, 8, 8, 8, 8, 8, 8, 8, 8, 8, 8, 8, 8, 8, 8, 8, 8, 8, 8, 8, 8, 8, 8, 8, 8, 8, 8, 8, 8, 8, 8, 8, 8, 8, 8, 8, 8, 8, 8, 8, 8][y]? = some b ∧ b.toNat = size y :=
 ⟨UInt8.ofNat (size y), tab8_get y h, by rw [UInt8.toNat_ofNat', Nat.mod_eq_of_lt (by have := gr h; omega)]⟩
theorem ul {x k : Nat} (h : 2 ^ k ≤ x) : size x = size (x / 2 ^ k) + k := by
 have h0 : x / 2 ^ k ≠ 0 := by
  have : 1 ≤ x / 2 ^ k := (Nat.le_div_iff_mul_le (Nat.two_pow_pos k)).2 (by omega)
  omega
 have h1 := size_le h0
 have h2 := uQ (x / 2 ^ k)
 have h3 := um h0
 rw [show size (x / 2 ^ k) + k = (size (x / 2 ^ k) - 1 + k) + 1 by omega]
 refine size_eq ?_ ?_
 ·rw [Nat.pow_add]
  exact (Nat.le_div_iff_mul_le (Nat.two_pow_pos k)).1 h1
 ·rw [show size (x / 2 ^ k) - 1 + k + 1 = size (x / 2 ^ k) + k by omega, Nat.pow_add]
  exact (Nat.div_lt_iff_lt_mul (Nat.two_pow_pos k)).1 h2
theorem shr16 (x : Nat) : qw .shr .u64 x 16 = some (.int .u64 (x / 65536 : Nat)) := ja (x := x) (s := 16) (by omega)
theorem shr8 (x : Nat) : qw .shr .u64 x 8 = some (.int .u64 (x / 256 : Nat)) := ja (x := x) (s := 8) (by omega)
theorem shr32' (x : Nat) : qw .shr .u64 x 32 = some (.int .u64 (x / 4294967296 : Nat)) := ja (x := x) (s := 32) (by omega)
theorem wlit : IntKind.i64.wrap 8 = 8 ∧ IntKind.i64.wrap 16 = 16 ∧ IntKind.i64.wrap 24 = 24 ∧ IntKind.i64.wrap 32 = 32 ∧ IntKind.i64.wrap 40 = 40 ∧ IntKind.i64.wrap 48 = 48 ∧ IntKind.i64.wrap 56 = 56 := by decide
theorem gU : zG Tryz.prog base 100 (za uu) := by
 refine zd zB Tab.none_ok ze low100 fun args z hs hf => ?_
 unfold uu at hs
 split at hs
 case h_2 => cases hs
 rename_i x
 split at hs
 case isFalse => cases hs
 rename_i hc
 cases hs
 obtain ⟨x, rfl⟩ := Int.eq_ofNat_of_zero_le hc.1
 simp only [Int.toNat_natCast] at hc ⊢
 obtain ⟨-, hx⟩ := hc
 rw [qI] at hx
 refine ⟨by simp [lf100], ?_⟩
 by_cases h0 : 4294967296 ≤ x
 ·obtain ⟨y0, hy0⟩ : ∃ y, y = x / 4294967296 := ⟨_, rfl⟩
  have e0 := shr32' x
  rw [← hy0] at e0
  have i0 : (4294967296 : Int) ≤ x := by omega
  have z0 : size x = size y0 + 32 := by rw [hy0]; exact ul (k := 32) h0
  by_cases h1 : 65536 ≤ y0
  ·obtain ⟨y1, hy1⟩ : ∃ y, y = y0 / 65536 := ⟨_, rfl⟩
   have e1 := shr16 y0
   rw [← hy1] at e1
   have i1 : (65536 : Int) ≤ y0 := by omega
   have z1 : size y0 = size y1 + 16 := by rw [hy1]; exact ul (k := 16) h1
   by_cases h2 : 256 ≤ y1
   ·obtain ⟨y2, hy2⟩ : ∃ y, y = y1 / 256 := ⟨_, rfl⟩
    have e2 := shr8 y1
    rw [← hy2] at e2
    have i2 : (256 : Int) ≤ y1 := by omega
    have z2 : size y1 = size y2 + 8 := by rw [hy2]; exact ul (k := 8) h2
    obtain ⟨b, hb, hbs⟩ := uL (y := y2) (by omega)
    have hsz := gr (y := y2) (by omega)
    have hu8 : IntKind.u8.wrap (y2 : Int) = y2 := IntWalk.u8_in _ (by omega)
    have hi8 : IntKind.i64.wrap (b.toNat : Int) = (b.toNat : Int) := IntWalk.i64_in _ (by omega)
    have hsum : IntKind.i64.wrap ((56 : Int) + b.toNat) = (size x : Int) := by rw [IntWalk.i64_in _ (by omega)]; omega
    simp [lf100, e0, i0, e1, i1, e2, i2, hsum, hu8, hb, hi8, wlit]
   ·have i2 : ¬ (256 : Int) ≤ y1 := by omega
    obtain ⟨b, hb, hbs⟩ := uL (y := y1) (by omega)
    have hsz := gr (y := y1) (by omega)
    have hu8 : IntKind.u8.wrap (y1 : Int) = y1 := IntWalk.u8_in _ (by omega)
    have hi8 : IntKind.i64.wrap (b.toNat : Int) = (b.toNat : Int) := IntWalk.i64_in _ (by omega)
    have hsum : IntKind.i64.wrap ((48 : Int) + b.toNat) = (size x : Int) := by rw [IntWalk.i64_in _ (by omega)]; omega
    simp [lf100, e0, i0, e1, i1, i2, hsum, hu8, hb, hi8, wlit]
  ·have i1 : ¬ (65536 : Int) ≤ y0 := by omega
   by_cases h2 : 256 ≤ y0
   ·obtain ⟨y2, hy2⟩ : ∃ y, y = y0 / 256 := ⟨_, rfl⟩
    have e2 := shr8 y0
    rw [← hy2] at e2
    have i2 : (256 : Int) ≤ y0 := by omega
    have z2 : size y0 = size y2 + 8 := by rw [hy2]; exact ul (k := 8) h2
    obtain ⟨b, hb, hbs⟩ := uL (y := y2) (by omega)
    have hsz := gr (y := y2) (by omega)
    have hu8 : IntKind.u8.wrap (y2 : Int) = y2 := IntWalk.u8_in _ (by omega)
    have hi8 : IntKind.i64.wrap (b.toNat : Int) = (b.toNat : Int) := IntWalk.i64_in _ (by omega)
    have hsum : IntKind.i64.wrap ((40 : Int) + b.toNat) = (size x : Int) := by rw [IntWalk.i64_in _ (by omega)]; omega
    simp [lf100, e0, i0, i1, e2, i2, hsum, hu8, hb, hi8, wlit]
   ·have i2 : ¬ (256 : Int) ≤ y0 := by omega
    obtain ⟨b, hb, hbs⟩ := uL (y := y0) (by omega)
    have hsz := gr (y := y0) (by omega)
    have hu8 : IntKind.u8.wrap (y0 : Int) = y0 := IntWalk.u8_in _ (by omega)
    have hi8 : IntKind.i64.wrap (b.toNat : Int) = (b.toNat : Int) := IntWalk.i64_in _ (by omega)
    have hsum : IntKind.i64.wrap ((32 : Int) + b.toNat) = (size x : Int) := by rw [IntWalk.i64_in _ (by omega)]; omega
    simp [lf100, e0, i0, i1, i2, hsum, hu8, hb, hi8]
 ·have i0 : ¬ (4294967296 : Int) ≤ x := by omega
  by_cases h1 : 65536 ≤ x
  ·obtain ⟨y1, hy1⟩ : ∃ y, y = x / 65536 := ⟨_, rfl⟩
   have e1 := shr16 x
   rw [← hy1] at e1
   have i1 : (65536 : Int) ≤ x := by omega
   have z1 : size x = size y1 + 16 := by rw [hy1]; exact ul (k := 16) h1
   by_cases h2 : 256 ≤ y1
   ·obtain ⟨y2, hy2⟩ : ∃ y, y = y1 / 256 := ⟨_, rfl⟩
    have e2 := shr8 y1
    rw [← hy2] at e2
    have i2 : (256 : Int) ≤ y1 := by omega
    have z2 : size y1 = size y2 + 8 := by rw [hy2]; exact ul (k := 8) h2
    obtain ⟨b, hb, hbs⟩ := uL (y := y2) (by omega)
    have hsz := gr (y := y2) (by omega)
    have hu8 : IntKind.u8.wrap (y2 : Int) = y2 := IntWalk.u8_in _ (by omega)
    have hi8 : IntKind.i64.wrap (b.toNat : Int) = (b.toNat : Int) := IntWalk.i64_in _ (by omega)
    have hsum : IntKind.i64.wrap ((24 : Int) + b.toNat) = (size x : Int) := by rw [IntWalk.i64_in _ (by omega)]; omega
    simp [lf100, i0, e1, i1, e2, i2, hsum, hu8, hb, hi8, wlit]
   ·have i2 : ¬ (256 : Int) ≤ y1 := by omega
    obtain ⟨b, hb, hbs⟩ := uL (y := y1) (by omega)
    have hsz := gr (y := y1) (by omega)
    have hu8 : IntKind.u8.wrap (y1 : Int) = y1 := IntWalk.u8_in _ (by omega)
    have hi8 : IntKind.i64.wrap (b.toNat : Int) = (b.toNat : Int) := IntWalk.i64_in _ (by omega)
    have hsum : IntKind.i64.wrap ((16 : Int) + b.toNat) = (size x : Int) := by rw [IntWalk.i64_in _ (by omega)]; omega
    simp [lf100, i0, e1, i1, i2, hsum, hu8, hb, hi8, wlit]
  ·have i1 : ¬ (65536 : Int) ≤ x := by omega
   by_cases h2 : 256 ≤ x
   ·obtain ⟨y2, hy2⟩ : ∃ y, y = x / 256 := ⟨_, rfl⟩
    have e2 := shr8 x
    rw [← hy2] at e2
    have i2 : (256 : Int) ≤ x := by omega
    have z2 : size x = size y2 + 8 := by rw [hy2]; exact ul (k := 8) h2
    obtain ⟨b, hb, hbs⟩ := uL (y := y2) (by omega)
    have hsz := gr (y := y2) (by omega)
    have hu8 : IntKind.u8.wrap (y2 : Int) = y2 := IntWalk.u8_in _ (by omega)
    have hi8 : IntKind.i64.wrap (b.toNat : Int) = (b.toNat : Int) := IntWalk.i64_in _ (by omega)
    have hsum : IntKind.i64.wrap ((8 : Int) + b.toNat) = (size x : Int) := by rw [IntWalk.i64_in _ (by omega)]; omega
    simp [lf100, i0, i1, e2, i2, hsum, hu8, hb, hi8, wlit]
   ·have i2 : ¬ (256 : Int) ≤ x := by omega
    obtain ⟨b, hb, hbs⟩ := uL (y := x) (by omega)
    have hsz := gr (y := x) (by omega)
    have hu8 : IntKind.u8.wrap (x : Int) = x := IntWalk.u8_in _ (by omega)
    have hi8 : IntKind.i64.wrap (b.toNat : Int) = (b.toNat : Int) := IntWalk.i64_in _ (by omega)
    have hi9 := hi8
    rw [hbs] at hi9
    simp [lf100, i0, i1, i2, hbs, hu8, hb, hi9]
def r7 : List PVal → Option PVal
 | [.int .u64 x] => if 0 ≤ x ∧ x.toNat < B then some (.int .i64 ((64 - size x.toNat : Nat) : Int)) else none
 | _ => none
theorem xj {x : Nat} (hx : x < B) : r7 [.int .u64 x] = some (.int .i64 ((64 - size x : Nat) : Int)) := by
 show (if (0 : Int) ≤ x ∧ (x : Int).toNat < B then _ else none) = _
 rw [if_pos ⟨by omega, by simpa using hx⟩]
 simp
theorem fu {x : Nat} (hx : x < B) : size x ≤ 64 := wQ.2 (by rw [bO]; exact hx)
def Tlen : Tab := Tab.none.with 100 (za uu)
theorem Tlen_ok : TabOk Tryz.prog base Tlen := Tab.with_ok Tab.none_ok gU
theorem Tlen_mu (f : FuncId) (a : List AVal) (H : zb) : Tlen.mu f a H = none := (rfl)
theorem Tlen_len : Tlen.fn 100 = za uu := (rfl)
theorem lead_ok : zG Tryz.prog base 152 (za r7) := by
 refine zd zB Tlen_ok ze low152 fun args z hs hf => ?_
 unfold r7 at hs
 split at hs
 case h_2 => cases hs
 rename_i x
 split at hs
 case isFalse => cases hs
 rename_i hc
 cases hs
 obtain ⟨x, rfl⟩ := Int.eq_ofNat_of_zero_le hc.1
 simp only [Int.toNat_natCast] at hc ⊢
 obtain ⟨-, hx⟩ := hc
 refine ⟨by simp [lf152], ?_⟩
 have h1 := rY hx
 have h2 := fu hx
 have h3 : IntKind.i64.wrap (64 - (size x : Int)) = ((64 - size x : Nat) : Int) := by rw [IntWalk.i64_in _ (by omega)]; omega
 simp [lf152, h1, h3, Tlen_mu, Tlen_len]
theorem xO {q y : Nat} (hq : q < 4294967296) (hy : y < 4294967296) : q * y < B := by
 have h := Lib.half_mul_le (a := q) (b := y) (by omega) (by omega)
 generalize q * y = p at *
 rw [qI]
 omega
theorem po (q a b rh : Nat) : q * (a * 4294967296 + b) = q * a * 4294967296 + q * b ∧ (q * a + rh) * 4294967296 = q * a * 4294967296 + rh * 4294967296 := by
 constructor
 ·rw [Nat.mul_add q, Nat.mul_assoc]
 ·exact Nat.add_mul _ _ _
theorem tb {q a b rh d un Q : Nat} (hT : un = q * a + rh) (hQ : Q = (un * 4294967296 + d) / (a * 4294967296 + b)) (hy : 0 < a * 4294967296 + b) (h : rh * 4294967296 + d < q * b) : Q < q := by
 subst hQ hT
 obtain ⟨e1, e2⟩ := po q a b rh
 refine (Nat.div_lt_iff_lt_mul hy).2 ?_
 rw [e1, e2, Nat.add_assoc]
 exact Nat.add_lt_add_left h _
theorem kr {q a b rh d un Q : Nat} (hT : un = q * a + rh) (hQ : Q = (un * 4294967296 + d) / (a * 4294967296 + b)) (hy : 0 < a * 4294967296 + b) (h : q * b ≤ rh * 4294967296 + d) : q ≤ Q := by
 subst hQ hT
 obtain ⟨e1, e2⟩ := po q a b rh
 refine (Nat.le_div_iff_mul_le hy).2 ?_
 rw [e1, e2]
 omega
theorem uV {a b d un Q : Nat} (hQ : Q = (un * 4294967296 + d) / (a * 4294967296 + b)) (hu : un < a * 4294967296 + b) (hd : d < 4294967296) : Q < 4294967296 := by
 rw [hQ, Nat.div_lt_iff_lt_mul (by omega)]
 omega
theorem pp {a b d un Q : Nat} (hQ : Q = (un * 4294967296 + d) / (a * 4294967296 + b)) (ha : 0 < a) (hd : d < 4294967296) : Q ≤ un / a := by
 rw [hQ, Nat.le_div_iff_mul_le ha]
 have h1 := Nat.div_mul_le_self (un * 4294967296 + d) (a * 4294967296 + b)
 generalize (un * 4294967296 + d) / (a * 4294967296 + b) = m at *
 rw [Nat.mul_add, ← Nat.mul_assoc] at h1
 omega
theorem ig {a b un : Nat} (hu : un < a * 4294967296 + b) (ha : 2147483648 ≤ a) (hb : b < 4294967296) : un / a ≤ 4294967297 := by
 have : un / a < 4294967298 := by rw [Nat.div_lt_iff_lt_mul (by omega)]; omega
 omega
theorem t3 {a d q y r : Nat} (h : a * 4294967296 + d = q * y + r) (hr : r < B) (hd : d < B) :
  IntKind.u64.wrap (IntKind.u64.wrap (IntKind.u64.wrap ((a : Int) * 4294967296) + d) - IntKind.u64.wrap ((q : Int) * y)) = (r : Int) := by
 rw [qI] at hr hd
 have e : (q : Int) * y = ((q * y : Nat) : Int) := by simp
 rw [e]
 generalize q * y = p at *
 rw [IntKind.wrap_u64, IntKind.wrap_u64, IntKind.wrap_u64, IntKind.wrap_u64]
 omega
theorem p7 {a q y r : Nat} (h : a = q * y + r) (hr : r < B) : IntKind.u64.wrap ((a : Int) - IntKind.u64.wrap ((q : Int) * y)) = (r : Int) := by
 rw [qI] at hr
 have e : (q : Int) * y = ((q * y : Nat) : Int) := by simp
 rw [e]
 generalize q * y = p at *
 rw [IntKind.wrap_u64, IntKind.wrap_u64]
 omega
def il (h l y : Nat) : Nat := (h * B + l) / y
def ik (h l y : Nat) : Nat := (h * B + l) % y
def dE : List PVal → Option PVal
 | [.int .u64 h, .int .u64 l, .int .u64 y] => if 0 ≤ h ∧ h < y ∧ 0 ≤ l ∧ l.toNat < B ∧ y.toNat < B then some (.tup [.int .u64 (il h.toNat l.toNat y.toNat), .int .u64 (ik h.toNat l.toNat y.toNat)]) else none
 | _ => none
theorem r9 {h l y : Nat} (hh : h < y) (hl : l < B) (hy : y < B) : dE [.int .u64 h, .int .u64 l, .int .u64 y] = some (.tup [.int .u64 (il h l y), .int .u64 (ik h l y)]) := by
 show (if (0 : Int) ≤ h ∧ (h : Int) < y ∧ (0 : Int) ≤ l ∧ (l : Int).toNat < B ∧ (y : Int).toNat < B then _ else none) = _
 rw [if_pos ⟨by omega, by omega, by omega, by simpa using hl, by simpa using hy⟩]
 simp
def Tdiv : Tab := Tab.none.with 152 (za r7)
theorem Tdiv_ok : TabOk Tryz.prog base Tdiv := Tab.with_ok Tab.none_ok lead_ok
theorem Tdiv_mu (f : FuncId) (a : List AVal) (H : zb) : Tdiv.mu f a H = none := (rfl)
theorem Tdiv_lead : Tdiv.fn 152 = za r7 := (rfl)
theorem div_loop0 {a b d un q0 r0 Q : Nat} {g2 g8 g11 g14 : AVal} {R : LExit → AFr → zb → Prop} {fr : AFr} (hT : un = q0 * a + r0) (hQ : Q = (un * 4294967296 + d) / (a * 4294967296 + b)) (hu : un < a * 4294967296 + b) (ha : 2147483648 ≤ a) (ha2 : a < 4294967296) (hb : b < 4294967296) (hd : d < 4294967296)
  (hq0 : Q ≤ q0) (hq1 : q0 ≤ 4294967297) (hr0 : r0 < 4294967296) (h9 : fr 9 = .p (.int .u64 a)) (h10 : fr 10 = .p (.int .u64 b)) (hD : fr 13 = .p (.int .u64 d)) (hq : fr 15 = .p (.int .u64 q0)) (h16 : fr 16 = .p (.int .u64 r0)) (k2 : fr 2 = g2) (k8 : fr 8 = g8) (k11 : fr 11 = g11) (k14 : fr 14 = g14)
  (hR : ∀ fr' : AFr, fr' 9 = .p (.int .u64 a) → fr' 10 = .p (.int .u64 b) → fr' 13 = .p (.int .u64 d) → fr' 15 = .p (.int .u64 Q) → fr' 2 = g2 → fr' 8 = g8 → fr' 11 = g11 → fr' 14 = g14 → R .normal fr' []) : vc Tdiv lf160_B0 R fr [] := by
 simp only [lf160_B0, zr]
 have hy : 0 < a * 4294967296 + b := by omega
 have hQs := uV hQ hu hd
 refine zo (fun fr H => ∃ q r : Nat, un = q * a + r ∧ Q ≤ q ∧ q ≤ 4294967297 ∧ r < 4294967296 ∧ H = [] ∧ fr 9 = .p (.int .u64 a) ∧ fr 10 = .p (.int .u64 b) ∧ fr 13 = .p (.int .u64 d) ∧ fr 15 = .p (.int .u64 q) ∧ fr 16 = .p (.int .u64 r) ∧ fr 2 = g2 ∧ fr 8 = g8 ∧ fr 11 = g11 ∧ fr 14 = g14)
  (fun fr _ => zD (fr 15)) ⟨q0, r0, hT, hq0, hq1, hr0, rfl, h9, h10, hD, hq, h16, k2, k8, k11, k14⟩ ?_
 rintro fr H ⟨q, r, hT, hq0, hq1, hr0, rfl, h9, h10, hD, hq, h16, k2, k8, k11, k14⟩
 obtain ⟨r', hr'⟩ : ∃ x, x = r + a := ⟨_, rfl⟩
 have hw2 : IntKind.u64.wrap ((r : Int) + a) = (r' : Int) := by rw [jj (by rw [qI]; omega), hr']
 have hTs : ∀ q', q = q' + 1 → un = q' * a + r' := fun q' e => by rw [hT, e, Nat.add_mul, hr']; omega
 have brk : ∀ q', q = q' + 1 → 4294967296 ≤ r' → q' = Q → True := fun _ _ _ _ => trivial
 by_cases hbig : 4294967296 ≤ q
 ·obtain ⟨q', hq'⟩ : ∃ x, q = x + 1 := ⟨q - 1, by omega⟩
  have hw1 : IntKind.u64.wrap ((q : Int) - 1) = (q' : Int) := by rw [IntWalk.u64_in _ (by omega)]; omega
  have hbI : (4294967296 : Int) ≤ q := by omega
  have hT' := hTs q' hq'
  by_cases hrb : 4294967296 ≤ r'
  ·have hrI : (4294967296 : Int) ≤ r' := by omega
   have hle : q' ≤ Q := kr hT' hQ hy (by
    have h1 : q' * b ≤ 4294967296 * b := Nat.mul_le_mul_right _ (by omega)
    omega)
   have hqQ : q' = Q := by omega
   subst hqQ
   simp [h9, hq, h16, hbI, hw1, hw2, hrI]
   exact hR _ (by simp [h9]) (by simp [h10]) (by simp [hD]) (by simp) (by simp [k2]) (by simp [k8]) (by simp [k11]) (by simp [k14])
  ·have hrI : ¬ (4294967296 : Int) ≤ r' := by omega
   simp [h9, h10, hD, hq, h16, k2, k8, k11, k14, hbI, hw1, hw2, hrI, zD]
   exact ⟨⟨q', r', hT', by omega, by omega, by omega, rfl, rfl⟩, by omega⟩
 ·have hbI : ¬ (4294967296 : Int) ≤ q := by omega
  obtain ⟨p, hp⟩ : ∃ x, x = q * b := ⟨_, rfl⟩
  have hpB : p < B := by rw [hp]; exact xO (by omega) hb
  have hw3 : IntKind.u64.wrap ((q : Int) * b) = (p : Int) := by rw [yC, ← hp, Nat.mod_eq_of_lt hpB]
  obtain ⟨t, ht⟩ : ∃ x, x = 4294967296 * r := ⟨_, rfl⟩
  have hw4 : IntKind.u64.wrap (4294967296 * (r : Int)) = (t : Int) := by rw [IntWalk.u64_in _ (by omega)]; omega
  obtain ⟨t2, ht2⟩ : ∃ x, x = t + d := ⟨_, rfl⟩
  have hw5 : IntKind.u64.wrap ((t : Int) + d) = (t2 : Int) := by rw [IntWalk.u64_in _ (by omega)]; omega
  by_cases hc : t2 < p
  ·have hQq : Q < q := tb hT hQ hy (by omega)
   obtain ⟨q', hq'⟩ : ∃ x, q = x + 1 := ⟨q - 1, by omega⟩
   have hw1 : IntKind.u64.wrap ((q : Int) - 1) = (q' : Int) := by rw [IntWalk.u64_in _ (by omega)]; omega
   have hT' := hTs q' hq'
   by_cases hrb : 4294967296 ≤ r'
   ·have hrI : (4294967296 : Int) ≤ r' := by omega
    have hle : q' ≤ Q := kr hT' hQ hy (by
     have h1 : q' * b ≤ 4294967296 * b := Nat.mul_le_mul_right _ (by omega)
     omega)
    have hqQ : q' = Q := by omega
    subst hqQ
    simp [h9, h10, hD, hq, h16, hbI, hw1, hw2, hw3, hw4, hw5, hc, hrI]
    exact hR _ (by simp [h9]) (by simp [h10]) (by simp [hD]) (by simp) (by simp [k2]) (by simp [k8]) (by simp [k11]) (by simp [k14])
   ·have hrI : ¬ (4294967296 : Int) ≤ r' := by omega
    simp [h9, h10, hD, hq, h16, k2, k8, k11, k14, hbI, hw1, hw2, hw3, hw4, hw5, hc, hrI, zD]
    exact ⟨⟨q', r', hT', by omega, by omega, by omega, rfl, rfl⟩, by omega⟩
  ·have hle : q ≤ Q := kr hT hQ hy (by omega)
   have hqQ : q = Q := by omega
   subst hqQ
   simp [h10, hD, hq, h16, hbI, hw3, hw4, hw5, hc]
   exact hR _ (by simp [h9]) (by simp [h10]) (by simp [hD]) (by simp [hq]) (by simp [k2]) (by simp [k8]) (by simp [k11]) (by simp [k14])
theorem div_loop1 {a b d un q0 r0 Q : Nat} {g2 g8 g15 g17 : AVal} {R : LExit → AFr → zb → Prop} {fr : AFr} (hT : un = q0 * a + r0) (hQ : Q = (un * 4294967296 + d) / (a * 4294967296 + b)) (hu : un < a * 4294967296 + b) (ha : 2147483648 ≤ a) (ha2 : a < 4294967296) (hb : b < 4294967296) (hd : d < 4294967296)
  (hq0 : Q ≤ q0) (hq1 : q0 ≤ 4294967297) (hr0 : r0 < 4294967296) (h9 : fr 9 = .p (.int .u64 a)) (h10 : fr 10 = .p (.int .u64 b)) (hD : fr 14 = .p (.int .u64 d)) (hq : fr 18 = .p (.int .u64 q0)) (h16 : fr 16 = .p (.int .u64 r0)) (k2 : fr 2 = g2) (k8 : fr 8 = g8) (k15 : fr 15 = g15) (k17 : fr 17 = g17)
  (hR : ∀ fr' : AFr, fr' 9 = .p (.int .u64 a) → fr' 10 = .p (.int .u64 b) → fr' 14 = .p (.int .u64 d) → fr' 18 = .p (.int .u64 Q) → fr' 2 = g2 → fr' 8 = g8 → fr' 15 = g15 → fr' 17 = g17 → R .normal fr' []) : vc Tdiv lf160_B1 R fr [] := by
 simp only [lf160_B1, zr]
 have hy : 0 < a * 4294967296 + b := by omega
 have hQs := uV hQ hu hd
 refine zo (fun fr H => ∃ q r : Nat, un = q * a + r ∧ Q ≤ q ∧ q ≤ 4294967297 ∧ r < 4294967296 ∧ H = [] ∧ fr 9 = .p (.int .u64 a) ∧ fr 10 = .p (.int .u64 b) ∧ fr 14 = .p (.int .u64 d) ∧ fr 18 = .p (.int .u64 q) ∧ fr 16 = .p (.int .u64 r) ∧ fr 2 = g2 ∧ fr 8 = g8 ∧ fr 15 = g15 ∧ fr 17 = g17)
  (fun fr _ => zD (fr 18)) ⟨q0, r0, hT, hq0, hq1, hr0, rfl, h9, h10, hD, hq, h16, k2, k8, k15, k17⟩ ?_
 rintro fr H ⟨q, r, hT, hq0, hq1, hr0, rfl, h9, h10, hD, hq, h16, k2, k8, k15, k17⟩
 obtain ⟨r', hr'⟩ : ∃ x, x = r + a := ⟨_, rfl⟩
 have hw2 : IntKind.u64.wrap ((r : Int) + a) = (r' : Int) := by rw [jj (by rw [qI]; omega), hr']
 have hTs : ∀ q', q = q' + 1 → un = q' * a + r' := fun q' e => by rw [hT, e, Nat.add_mul, hr']; omega
 have brk : ∀ q', q = q' + 1 → 4294967296 ≤ r' → q' = Q → True := fun _ _ _ _ => trivial
 by_cases hbig : 4294967296 ≤ q
 ·obtain ⟨q', hq'⟩ : ∃ x, q = x + 1 := ⟨q - 1, by omega⟩
  have hw1 : IntKind.u64.wrap ((q : Int) - 1) = (q' : Int) := by rw [IntWalk.u64_in _ (by omega)]; omega
  have hbI : (4294967296 : Int) ≤ q := by omega
  have hT' := hTs q' hq'
  by_cases hrb : 4294967296 ≤ r'
  ·have hrI : (4294967296 : Int) ≤ r' := by omega
   have hle : q' ≤ Q := kr hT' hQ hy (by
    have h1 : q' * b ≤ 4294967296 * b := Nat.mul_le_mul_right _ (by omega)
    omega)
   have hqQ : q' = Q := by omega
   subst hqQ
   simp [h9, hq, h16, hbI, hw1, hw2, hrI]
   exact hR _ (by simp [h9]) (by simp [h10]) (by simp [hD]) (by simp) (by simp [k2]) (by simp [k8]) (by simp [k15]) (by simp [k17])
  ·have hrI : ¬ (4294967296 : Int) ≤ r' := by omega
   simp [h9, h10, hD, hq, h16, k2, k8, k15, k17, hbI, hw1, hw2, hrI, zD]
   exact ⟨⟨q', r', hT', by omega, by omega, by omega, rfl, rfl⟩, by omega⟩
 ·have hbI : ¬ (4294967296 : Int) ≤ q := by omega
  obtain ⟨p, hp⟩ : ∃ x, x = q * b := ⟨_, rfl⟩
  have hpB : p < B := by rw [hp]; exact xO (by omega) hb
  have hw3 : IntKind.u64.wrap ((q : Int) * b) = (p : Int) := by rw [yC, ← hp, Nat.mod_eq_of_lt hpB]
  obtain ⟨t, ht⟩ : ∃ x, x = 4294967296 * r := ⟨_, rfl⟩
  have hw4 : IntKind.u64.wrap (4294967296 * (r : Int)) = (t : Int) := by rw [IntWalk.u64_in _ (by omega)]; omega
  obtain ⟨t2, ht2⟩ : ∃ x, x = t + d := ⟨_, rfl⟩
  have hw5 : IntKind.u64.wrap ((t : Int) + d) = (t2 : Int) := by rw [IntWalk.u64_in _ (by omega)]; omega
  by_cases hc : t2 < p
  ·have hQq : Q < q := tb hT hQ hy (by omega)
   obtain ⟨q', hq'⟩ : ∃ x, q = x + 1 := ⟨q - 1, by omega⟩
   have hw1 : IntKind.u64.wrap ((q : Int) - 1) = (q' : Int) := by rw [IntWalk.u64_in _ (by omega)]; omega
   have hT' := hTs q' hq'
   by_cases hrb : 4294967296 ≤ r'
   ·have hrI : (4294967296 : Int) ≤ r' := by omega
    have hle : q' ≤ Q := kr hT' hQ hy (by
     have h1 : q' * b ≤ 4294967296 * b := Nat.mul_le_mul_right _ (by omega)
     omega)
    have hqQ : q' = Q := by omega
    subst hqQ
    simp [h9, h10, hD, hq, h16, hbI, hw1, hw2, hw3, hw4, hw5, hc, hrI]
    exact hR _ (by simp [h9]) (by simp [h10]) (by simp [hD]) (by simp) (by simp [k2]) (by simp [k8]) (by simp [k15]) (by simp [k17])
   ·have hrI : ¬ (4294967296 : Int) ≤ r' := by omega
    simp [h9, h10, hD, hq, h16, k2, k8, k15, k17, hbI, hw1, hw2, hw3, hw4, hw5, hc, hrI, zD]
    exact ⟨⟨q', r', hT', by omega, by omega, by omega, rfl, rfl⟩, by omega⟩
  ·have hle : q ≤ Q := kr hT hQ hy (by omega)
   have hqQ : q = Q := by omega
   subst hqQ
   simp [h10, hD, hq, h16, hbI, hw3, hw4, hw5, hc]
   exact hR _ (by simp [h9]) (by simp [h10]) (by simp [hD]) (by simp [hq]) (by simp [k2]) (by simp [k8]) (by simp [k15]) (by simp [k17])
theorem io : zG Tryz.prog base 160 (za dE) := by
 refine zd zB Tdiv_ok ze low160 fun args z hs hf => ?_
 unfold dE at hs
 split at hs
 case h_2 => cases hs
 rename_i h l y
 split at hs
 case isFalse => cases hs
 rename_i hc
 cases hs
 obtain ⟨h, rfl⟩ := Int.eq_ofNat_of_zero_le hc.1
 obtain ⟨l, rfl⟩ := Int.eq_ofNat_of_zero_le hc.2.2.1
 obtain ⟨y, rfl⟩ := Int.eq_ofNat_of_zero_le (a := y) (by omega)
 simp only [Int.toNat_natCast] at hc ⊢
 obtain ⟨-, hhy, -, hl, hy⟩ := hc
 have hhy : h < y := by omega
 refine ⟨by simp [lf160], ?_⟩
 have hy0 : ((y : Int) == 0) = false := beq_false_of_ne (by omega)
 have hyh : ¬ y ≤ h := by omega
 by_cases hh : h = 0
 ·subst hh
  have hq : IntKind.u64.wrap ((l : Int) / y) = (il 0 l y : Int) := by
   have : (l : Int) / y = ((l / y : Nat) : Int) := by simp
   rw [this, bB (Nat.lt_of_le_of_lt (Nat.div_le_self _ _) hl)]
   simp [il]
  have hr : (l : Int).tmod y = (ik 0 l y : Int) := by rw [Int.tmod_eq_emod_of_nonneg (by omega)]; simp [ik]
  have hyn : ¬ (y : Int) = 0 := by omega
  have hyn' : ¬ y = 0 := by omega
  have hyI : ¬ (y : Int) ≤ 0 := by omega
  simp [lf160, hy0, hyn', hq, hr]
 ·have hh0 : ((h : Int) == 0) = false := beq_false_of_ne (by omega)
  have hyne : y ≠ 0 := by omega
  obtain ⟨s, hs⟩ : ∃ s, s = 64 - size y := ⟨_, rfl⟩
  have hsz := fu hy
  have hsp := um hyne
  have hs63 : s ≤ 63 := by omega
  have hlead := xj hy
  rw [← hs] at hlead
  have hws : IntKind.u64.wrap (s : Int) = s := bB (by rw [qI]; omega)
  -- the divisor
  obtain ⟨y', hy'⟩ : ∃ w, w = y * 2 ^ s := ⟨_, rfl⟩
  have hy'B : y' < B := by
   rw [hy', ← bO, show 64 = size y + s by omega, Nat.pow_add]
   exact Nat.mul_lt_mul_of_pos_right (uQ y) (Nat.two_pow_pos s)
  have hy'H : B / 2 ≤ y' := by
   have h1 := Nat.mul_le_mul_right (2 ^ s) (size_le hyne)
   rw [← Nat.pow_add, show size y - 1 + s = 63 by omega, ← hy'] at h1
   rw [qI]
   omega
  have e1 : qw .shl .u64 y s = some (.int .u64 y') := by rw [kC (by omega), ← hy', Nat.mod_eq_of_lt hy'B]
  obtain ⟨a, ha⟩ : ∃ w, w = kH y' := ⟨_, rfl⟩
  obtain ⟨b, hb⟩ : ∃ w, w = yY y' := ⟨_, rfl⟩
  have e2 := shr32 y'
  have e3 := bT hy'B
  rw [← ha] at e2
  rw [← hb] at e3
  have hab : y' = a * 4294967296 + b := by rw [ha, hb]; unfold kH yY; omega
  have hbG : b < 4294967296 := by rw [hb]; unfold yY; omega
  have haG : a < 4294967296 := by rw [ha]; unfold kH; rw [qI] at hy'B; omega
  have haH : 2147483648 ≤ a := by rw [qI] at hy'H; omega
  -- the dividend
  obtain ⟨u, hu⟩ : ∃ w, w = h * 2 ^ s + l / 2 ^ (64 - s) := ⟨_, rfl⟩
  have hlo : l / 2 ^ (64 - s) < 2 ^ s := by
   rw [Nat.div_lt_iff_lt_mul (Nat.two_pow_pos _), ue (by omega)]; exact hl
  have huy : u < y' := by
   have : (h + 1) * 2 ^ s ≤ y * 2 ^ s := Nat.mul_le_mul_right _ hhy
   rw [Nat.add_mul, Nat.one_mul] at this
   omega
  have hhs : h * 2 ^ s < B := Nat.lt_of_le_of_lt (by rw [hu]; exact Nat.le_add_right _ _) (Nat.lt_trans huy hy'B)
  have e4 : qw .shl .u64 h s = some (.int .u64 (h * 2 ^ s : Nat)) := by rw [kC (by omega), Nat.mod_eq_of_lt hhs]
  have hws2 : IntKind.u64.wrap (64 - (s : Int)) = ((64 - s : Nat) : Int) := by rw [IntWalk.u64_in _ (by omega)]; omega
  have e5 : qw .shr .u64 l ((64 - s : Nat) : Int) = some (.int .u64 (l / 2 ^ (64 - s) : Nat)) := ja (by omega)
  have e6 := cJ hhs (show l / 2 ^ (64 - s) < B from Nat.lt_of_le_of_lt (Nat.div_le_self _ _) hl)
  rw [Nat.or_comm, zab hlo, Nat.add_comm, ← hu] at e6
  obtain ⟨hs1, hhs1⟩ : ∃ w, w = h * 2 ^ s := ⟨_, rfl⟩
  obtain ⟨ls1, hls1⟩ : ∃ w, w = l / 2 ^ (64 - s) := ⟨_, rfl⟩
  rw [← hhs1] at e4 e6
  rw [← hls1] at e5 e6
  obtain ⟨v, hv⟩ : ∃ w, w = l * 2 ^ s % B := ⟨_, rfl⟩
  have hvB : v < B := by rw [hv]; exact Nat.mod_lt _ qf
  have e7 : qw .shl .u64 l s = some (.int .u64 v) := by rw [kC (by omega), hv]
  obtain ⟨d1, hd1⟩ : ∃ w, w = kH v := ⟨_, rfl⟩
  obtain ⟨d0, hd0⟩ : ∃ w, w = yY v := ⟨_, rfl⟩
  have e8 := shr32 v
  have e9 := bT hvB
  rw [← hd1] at e8
  rw [← hd0] at e9
  have hvd : v = d1 * 4294967296 + d0 := by rw [hd1, hd0]; unfold kH yY; omega
  have hd1G : d1 < 4294967296 := by rw [hd1]; unfold kH; rw [qI] at hvB; omega
  have hd0G : d0 < 4294967296 := by rw [hd0]; unfold yY; omega
  have hN : (h * B + l) * 2 ^ s = (u * 4294967296 + d1) * 4294967296 + d0 := by
   have h1 := Nat.mod_add_div (l * 2 ^ s) B
   rw [← hv, rJ (by omega)] at h1
   have h2 : (h * B + l) * 2 ^ s = h * 2 ^ s * B + l * 2 ^ s := by rw [Nat.add_mul, Nat.mul_right_comm]
   rw [h2, hu, ← h1, hvd]
   generalize h * 2 ^ s = p at *
   generalize l / 2 ^ (64 - s) = q at *
   rw [qI]
   omega
  -- the digits
  obtain ⟨Q1, hQ1⟩ : ∃ w, w = (u * 4294967296 + d1) / (a * 4294967296 + b) := ⟨_, rfl⟩
  obtain ⟨R1, hR1⟩ : ∃ w, w = (u * 4294967296 + d1) % (a * 4294967296 + b) := ⟨_, rfl⟩
  have hdm1 := Nat.div_add_mod (u * 4294967296 + d1) (a * 4294967296 + b)
  rw [← hQ1, ← hR1, Nat.mul_comm _ Q1, ← hab] at hdm1
  have hR1y : R1 < y' := by rw [hR1, ← hab]; exact Nat.mod_lt _ (by omega)
  obtain ⟨Q0, hQ0⟩ : ∃ w, w = (R1 * 4294967296 + d0) / (a * 4294967296 + b) := ⟨_, rfl⟩
  obtain ⟨R0, hR0⟩ : ∃ w, w = (R1 * 4294967296 + d0) % (a * 4294967296 + b) := ⟨_, rfl⟩
  have hdm0 := Nat.div_add_mod (R1 * 4294967296 + d0) (a * 4294967296 + b)
  rw [← hQ0, ← hR0, Nat.mul_comm _ Q0, ← hab] at hdm0
  have hR0y : R0 < y' := by rw [hR0, ← hab]; exact Nat.mod_lt _ (by omega)
  have hQ1G := uV hQ1 (by omega) hd1G
  have hQ0G := uV hQ0 (by omega) hd0G
  have hdiv : h * B + l = (Q1 * 4294967296 + Q0) * y + R0 / 2 ^ s ∧ R0 / 2 ^ s < y := by
   have h1 : (h * B + l) * 2 ^ s = ((Q1 * 4294967296 + Q0) * y) * 2 ^ s + R0 := by
    rw [hN, ← hdm1, Nat.mul_assoc, ← hy', Nat.add_mul (Q1 * 4294967296), Nat.mul_right_comm Q1, Nat.add_mul]
    omega
   have h2 := congrArg (fun t => t / 2 ^ s) h1
   rw [Nat.mul_div_cancel _ (Nat.two_pow_pos s), Nat.add_comm _ R0, Nat.add_mul_div_right _ _ (Nat.two_pow_pos s)] at h2
   refine ⟨by omega, ?_⟩
   rw [Nat.div_lt_iff_lt_mul (Nat.two_pow_pos s), ← hy']
   exact hR0y
  obtain ⟨hq, hr⟩ := hZ (a := h * B + l) (q := Q1 * 4294967296 + Q0) (k := y) (by rw [Nat.mul_comm y]; exact hdiv.1) hdiv.2
  have hqd : il h l y = Q1 * 4294967296 + Q0 := hq.symm
  have hrd : ik h l y = R0 / 2 ^ s := hr.symm
  -- the walk
  have ha0 : ¬ (a : Int) = 0 := by omega
  have ha0' : ¬ a = 0 := by omega
  obtain ⟨q0, hq0⟩ : ∃ w, w = u / a := ⟨_, rfl⟩
  obtain ⟨r0, hr0⟩ : ∃ w, w = u % a := ⟨_, rfl⟩
  have hua := Nat.div_add_mod u a
  rw [← hq0, ← hr0, Nat.mul_comm] at hua
  have hr0a : r0 < a := by rw [hr0]; exact Nat.mod_lt _ (by omega)
  have w1 : IntKind.u64.wrap ((u : Int) / a) = (q0 : Int) := by
   have : (u : Int) / a = ((u / a : Nat) : Int) := by simp
   rw [this, ← hq0, bB (Nat.lt_of_le_of_lt (by rw [hq0]; exact Nat.div_le_self _ _) (by omega : u < B))]
  have w2 : IntKind.u64.wrap ((u : Int) - IntKind.u64.wrap ((q0 : Int) * a)) = (r0 : Int) := p7 hua.symm (by rw [qI]; omega)
  obtain ⟨q2, hq2⟩ : ∃ w, w = R1 / a := ⟨_, rfl⟩
  obtain ⟨r2, hr2⟩ : ∃ w, w = R1 % a := ⟨_, rfl⟩
  have hua2 := Nat.div_add_mod R1 a
  rw [← hq2, ← hr2, Nat.mul_comm] at hua2
  have hr2a : r2 < a := by rw [hr2]; exact Nat.mod_lt _ (by omega)
  have w3 : IntKind.u64.wrap ((R1 : Int) / a) = (q2 : Int) := by
   have : (R1 : Int) / a = ((R1 / a : Nat) : Int) := by simp
   rw [this, ← hq2, bB (Nat.lt_of_le_of_lt (by rw [hq2]; exact Nat.div_le_self _ _) (by omega : R1 < B))]
  have w4 : IntKind.u64.wrap ((R1 : Int) - IntKind.u64.wrap ((q2 : Int) * a)) = (r2 : Int) := p7 hua2.symm (by rw [qI]; omega)
  have w5 := t3 (a := u) (d := d1) (q := Q1) (y := y') (r := R1) hdm1.symm (by omega) (by rw [qI]; omega)
  have w6 := t3 (a := R1) (d := d0) (q := Q0) (y := y') (r := R0) hdm0.symm (by omega) (by rw [qI]; omega)
  obtain ⟨q3, hq3⟩ : ∃ w, w = Q1 * 4294967296 := ⟨_, rfl⟩
  have w7 : IntKind.u64.wrap ((Q1 : Int) * 4294967296) = (q3 : Int) := by rw [IntWalk.u64_in _ (by omega)]; omega
  have w8 : IntKind.u64.wrap ((q3 : Int) + Q0) = (il h l y : Int) := by rw [hqd, ← hq3, IntWalk.u64_in _ (by omega)]; omega
  have w9 : qw .shr .u64 R0 s = some (.int .u64 (ik h l y)) := by rw [ja (by omega), hrd]
  have hyhI : ¬ (y : Int) ≤ h := by omega
  simp [-BitVec.toNat_and, -BitVec.toNat_or, lf160, hy0, hyh, hh0, hlead, hws, hws2, e1, e2, e3, e4, e5, e6, e7, e8, e9, ha0', w1, w2, Tdiv_mu, Tdiv_lead]
  refine div_loop0 (g2 := .p (.int .u64 y')) (g8 := .p (.int .u64 s)) (g11 := .p (.int .u64 u)) (g14 := .p (.int .u64 d0)) (un := u) (d := d1) (a := a) (b := b) (q0 := q0) (r0 := r0) (Q := Q1) hua.symm hQ1 (by omega) haH haG hbG hd1G ?_ ?_ (by omega) (by simp) (by simp) (by simp) (by simp) (by simp) (by simp) (by simp) (by simp) (by simp) ?_
  ·rw [hq0]; exact pp hQ1 (by omega) hd1G
  ·rw [hq0]; exact ig (by omega) haH hbG
  intro fr' f9 f10 f13 f15 f2 f8 f11 f14
  simp [f9, f13, f15, f2, f11, w3, w4, w5, ha0']
  refine div_loop1 (g2 := .p (.int .u64 y')) (g8 := .p (.int .u64 s)) (g15 := .p (.int .u64 Q1)) (g17 := .p (.int .u64 R1)) (un := R1) (d := d0) (a := a) (b := b) (q0 := q2) (r0 := r2) (Q := Q0) hua2.symm hQ0 (by omega) haH haG hbG hd0G ?_ ?_ (by omega) (by simp [f9]) (by simp [f10]) (by simp [f14]) (by simp) (by simp) (by simp [f2]) (by simp [f8]) (by simp [f15]) (by simp) ?_
  ·rw [hq2]; exact pp hQ0 (by omega) hd0G
  ·rw [hq2]; exact ig (by omega) haH hbG
  intro fr2 g9 g10 g14 g18 g2 g8 g15 g17
  simp [g14, g18, g2, g8, g15, g17, w6, w7, w8, w9]
theorem dr {l : List Nat} {m : Nat} (h : m < l.length) (x : Nat) : (l.set m x).drop m = x :: l.drop (m + 1) := by
 rw [je (a := l.set m x) (x := x) (by simp [h]), List.drop_set_of_lt (by omega)]
def Tby : Tab := (Tab.none.with 139 (za qF)).with 160 (za dE)
theorem Tby_ok : TabOk Tryz.prog base Tby := Tab.with_ok (Tab.with_ok Tab.none_ok cx) io
theorem Tby_mu (f : FuncId) (a : List AVal) (H : zb) : Tby.mu f a H = none := (rfl)
theorem Tby_trim : Tby.fn 139 = za qF := (rfl)
theorem Tby_div : Tby.fn 160 = za dE := (rfl)
def cC : List PVal → Option PVal
 | [.lst xs, .int .u64 k] => match vM xs with | some a => if 0 < k ∧ k.toNat < B then some (.tup [wD (a / k.toNat), .int .u64 (a % k.toNat : Nat)]) else none | _ => none
 | _ => none
theorem eX {a k : Nat} (ha : len a ≤ 100000) (hk : 0 < k) (hk2 : k < B) : cC [.lst ((zc a).map u64), .int .u64 k] = some (.tup [.lst ((zc (a / k)).map u64), .int .u64 (a % k : Nat)]) := by
 simp only [cC, zM ha]
 have : (0 : Int) < k ∧ (k : Int).toNat < B := ⟨by omega, by simpa using hk2⟩
 rw [if_pos this]
 rfl
theorem byLimb_ok : zG Tryz.prog base 151 (za cC) := by
 refine zd zB Tby_ok ze low151 fun args z hs hf => ?_
 unfold cC at hs
 split at hs
 case h_2 => cases hs
 rename_i xs k
 split at hs
 case h_2 => cases hs
 rename_i a ha
 split at hs
 case isFalse => cases hs
 rename_i hk
 cases hs
 obtain ⟨rfl, hla⟩ := zE ha
 obtain ⟨k, rfl⟩ := Int.eq_ofNat_of_zero_le (a := k) (by omega)
 simp only [Int.toNat_natCast] at hk ⊢
 have hk0 : 0 < k := by omega
 have hkB := hk.2
 refine ⟨by simp [lf151], ?_⟩
 have la : (zc a).length = len a := rfl
 have wa := zC a
 have hcap := wI (len a) (by omega)
 have hi0 : IntKind.i64.wrap ((len a : Int) - 1) = (len a : Int) - 1 := IntWalk.i64_in _ (by omega)
 obtain ⟨R, hR⟩ : ∃ R, R = a % k := ⟨_, rfl⟩
 rw [← hR]
 simp [lf151, la, hcap, hi0]
 simp only [lf151_B0, zr]
 refine zo (fun fr H => ∃ (n r : Nat) (l : List Nat), n ≤ len a ∧ l.length = len a ∧ Wf l ∧ r < k ∧ val ((zc a).drop n) = k * val (l.drop n) + r ∧ H = [zH 0 l] ∧ fr 0 = .p (.lst ((zc a).map u64)) ∧ fr 1 = .p (.int .u64 k) ∧
   fr 4 = .own 0 0 (len a) 0 ∧ fr 5 = .p (.int .u64 r) ∧ fr 6 = .p (.int .i64 ((n : Int) - 1)))
  (fun fr _ => s9 (fr 6)) ⟨len a, 0, List.replicate (len a) 0, by omega, by simp, Wf.zeros _, hk0, by rw [List.drop_eq_nil_of_le (by omega), List.drop_eq_nil_of_le (by simp)]; simp [qg], by simp [zH], by simp, by simp, by simp, by simp, by simp⟩ ?_
 rintro fr H ⟨n, r, l, hn, hl, hwl, hrk, hv, rfl, h0, h1, h4, h5, h6⟩
 by_cases hn0 : 0 < n
 ·obtain ⟨m, rfl⟩ : ∃ m, n = m + 1 := ⟨n - 1, by omega⟩
  have e6 : (((m + 1 : Nat) : Int) - 1) = (m : Int) := by omega
  rw [e6] at h6
  obtain ⟨x, hx⟩ : ∃ x, (zc a)[m]? = some x := ⟨_, List.getElem?_eq_getElem (by omega)⟩
  have hml : m < l.length := by omega
  have hmn : m < len a := by omega
  obtain ⟨o, ho⟩ : ∃ o, l[m]? = some o := ⟨_, List.getElem?_eq_getElem hml⟩
  have hxB := wa.get hx
  have hD := r9 hrk hxB hkB
  have hw : IntKind.i64.wrap ((m : Int) - 1) = (m : Int) - 1 := IntWalk.i64_in _ (by omega)
  simp [h0, h1, h4, h5, h6, hx, hD, hmn, ho, hw, zH, Tby_mu, Tby_div, s9]
  refine ⟨m, by omega, ik r x k, l.set m (il r x k), by simp [hl], hwl.set _ (div_lt hrk hxB), Nat.mod_lt _ hk0, ?_, by rw [List.map_set]; rfl, rfl, rfl⟩
  rw [vC hx, dr hml, q9]
  exact div_step hv
 ·have : n = 0 := by omega
  subst this
  rw [List.drop_zero, List.drop_zero, zw] at hv
  obtain ⟨hq, hr⟩ := hZ hv hrk
  obtain ⟨hT, ht⟩ := jS hl hwl (by omega) hq
  have hrR : r = R := by rw [hR, hr]
  subst hrR
  simp [h4, h5, h6, zH, hl, hT, ht, zO, zQ, Tby_mu, Tby_trim]
def Ttr : Tab := Tab.none.with 139 (za qF)
theorem Ttr_ok : TabOk Tryz.prog base Ttr := Tab.with_ok Tab.none_ok cx
theorem Ttr_mu (f : FuncId) (a : List AVal) (H : zb) : Ttr.mu f a H = none := (rfl)
theorem iY : Ttr.fn 139 = za qF := (rfl)
def rZ : List PVal → Option PVal
 | [.lst xs, .int .i64 n] => match vM xs with | some a => if 0 ≤ n ∧ n ≤ 6000000 then some (wD (a * 2 ^ n.toNat)) else none | _ => none
 | _ => none
theorem xh {a n : Nat} (ha : len a ≤ 100000) (hn : n ≤ 6000000) : rZ [.lst ((zc a).map u64), .int .i64 n] = some (.lst ((zc (a * 2 ^ n)).map u64)) := by
 simp only [rZ, zM ha]
 rw [if_pos ⟨by omega, by omega⟩]
 rfl
theorem left_step {l : List Nat} {j lo hi h : Nat} (hw : Wf l) (hlo : h + lo < B) (hhi : hi < B) (hj : j + 1 < l.length) :
  Wf ((l.set j (h + lo)).set (j + 1) hi) ∧ ((l.set j (h + lo)).set (j + 1) hi).length = l.length ∧
  val (((l.set j (h + lo)).set (j + 1) hi).take (j + 1)) = val (l.take j) + B ^ j * (h + lo) ∧ ((l.set j (h + lo)).set (j + 1) hi)[j + 1]? = some hi ∧
  ((l.set j (h + lo)).set (j + 1) hi).drop (j + 2) = l.drop (j + 2) := by
 refine ⟨(hw.set _ hlo).set _ hhi, by simp, ?_, by simp [hj], ?_⟩
 ·rw [take_set, z3 (by omega)]
 ·rw [List.drop_set_of_lt (by omega), List.drop_set_of_lt (by omega)]
theorem left_ok : zG Tryz.prog base 153 (za rZ) := by
 refine zd zB Ttr_ok ze low153 fun args z hs hf => ?_
 unfold rZ at hs
 split at hs
 case h_2 => cases hs
 rename_i xs n
 split at hs
 case h_2 => cases hs
 rename_i a ha
 split at hs
 case isFalse => cases hs
 rename_i hn
 cases hs
 obtain ⟨rfl, hla⟩ := zE ha
 obtain ⟨n, rfl⟩ := Int.eq_ofNat_of_zero_le hn.1
 simp only [Int.toNat_natCast] at hn ⊢
 have hn := hn.2
 refine ⟨by simp [lf153], ?_⟩
 have la : (zc a).length = len a := rfl
 have wa := zC a
 obtain ⟨w, hw⟩ : ∃ w, w = n / 64 := ⟨_, rfl⟩
 obtain ⟨s, hs⟩ : ∃ s, s = n % 64 := ⟨_, rfl⟩
 have hs64 : s < 64 := by omega
 obtain ⟨M, hM⟩ : ∃ M, M = len a + w := ⟨_, rfl⟩
 obtain ⟨N, hN⟩ : ∃ N, N = M + 1 := ⟨_, rfl⟩
 have hcap := wI N (by omega)
 have q1 : IntKind.i64.wrap ((n : Int).tdiv 64) = (w : Int) := by rw [Int.tdiv_eq_ediv_of_nonneg (by omega), IntWalk.i64_in _ (by omega)]; omega
 have q1' : IntKind.i64.wrap ((n : Int) / 64) = (w : Int) := by rw [IntWalk.i64_in _ (by omega)]; omega
 have q2 : (n : Int).tmod 64 = (s : Int) := by rw [Int.tmod_eq_emod_of_nonneg (by omega)]; omega
 have q2' : (n : Int) % 64 = (s : Int) := by omega
 have q3 : IntKind.u64.wrap (s : Int) = s := IntWalk.u64_in _ (by omega)
 have hw1 : IntKind.i64.wrap ((len a : Int) + w) = (M : Int) := by rw [← Int.natCast_add, ← hM]; exact yD (by omega)
 have hw2 : IntKind.i64.wrap ((M : Int) + 1) = (N : Int) := by rw [zs (i := M) (by omega), hN]
 have hpow : 2 ^ n = B ^ w * 2 ^ s := by rw [bw, ← Nat.pow_add, show 64 * w + s = n by omega]
 simp [lf153, la, q1', q2, q3, hw1, hw2, hcap]
 simp only [lf153_B0, zr]
 refine zo (fun fr H => ∃ (i h : Nat) (l : List Nat), i ≤ len a ∧ l.length = N ∧ Wf l ∧ h < 2 ^ s ∧ l[i + w]? = some h ∧ val (l.take (i + w)) + B ^ (i + w) * h = val ((zc a).take i) * 2 ^ n ∧ l.drop (i + w + 1) = List.replicate (len a - i) 0 ∧ H = [zH 0 l] ∧
   fr 1 = .p (.int .i64 n) ∧ fr 5 = .own 0 0 N 0 ∧ fr 6 = .p (.int .u64 s) ∧ fr 19 = .p (.lst ((zc a).map u64)) ∧ fr 20 = .p (.int .i64 (len a)) ∧ fr 21 = .p (.int .i64 i))
  (fun fr _ => len a - zD (fr 21)) ⟨0, 0, List.replicate N 0, by omega, by simp, Wf.zeros _, Nat.two_pow_pos s, by rw [List.getElem?_replicate, if_pos (by omega)], ?_, ?_, by simp [zH], by simp, by simp, by simp, by simp, by simp, by simp⟩ ?_
 ·simp [qg, kd, List.take_replicate]
 ·simp [List.drop_replicate]; omega
 rintro fr H ⟨i, h, l, hi, hl, hwl, hh, hlh, hv, hz, rfl, h1, h5, h6, h19, h20, h21⟩
 by_cases hlt : i < len a
 ·obtain ⟨x, hx⟩ : ∃ x, (zc a)[i]? = some x := ⟨_, List.getElem?_eq_getElem (by omega)⟩
  have hxB := wa.get hx
  obtain ⟨j, hj⟩ : ∃ j, j = i + w := ⟨_, rfl⟩
  have hw3 : IntKind.i64.wrap ((i : Int) + w) = (j : Int) := by rw [← Int.natCast_add, ← hj]; exact yD (by omega)
  have hw4 := zs (i := j) (by omega)
  obtain ⟨j1, hj1⟩ : ∃ k, k = j + 1 := ⟨_, rfl⟩
  rw [← hj1] at hw4
  obtain ⟨lo, hlo⟩ : ∃ t, t = x * 2 ^ s % B := ⟨_, rfl⟩
  obtain ⟨hb, hhb⟩ : ∃ t, t = x * 2 ^ s / B := ⟨_, rfl⟩
  have hsum : h + lo < B := by rw [hlo]; exact dw (by omega) hh
  have hbl : hb < 2 ^ s := by rw [hhb]; exact nH hxB
  have hbB : hb < B := Nat.lt_of_lt_of_le hbl (by rw [← bO]; exact Nat.pow_le_pow_right (by omega) (by omega))
  have e1 : qw .shl .u64 x s = some (.int .u64 lo) := by rw [kC (by omega), hlo]
  have e2 : qw .shr .u64 x ((64 - s : Nat) : Int) = some (.int .u64 hb) := by rw [ja (by omega), hhb, rJ (by omega)]
  have e3 : IntKind.u64.wrap (64 - (s : Int)) = ((64 - s : Nat) : Int) := by rw [IntWalk.u64_in _ (by omega)]; omega
  have hloB : lo < B := by omega
  have e4 := cJ (x := h) (y := lo) (by omega) hloB
  rw [show h ||| lo = h + lo by rw [hlo]; exact zaa (by omega) hh] at e4
  have e5 : IntKind.u64.wrap ((hb : Int) % 2 ^ IntKind.u64.bits) = (hb : Int) := by
   have : (hb : Int) % 2 ^ IntKind.u64.bits = hb := Int.emod_eq_of_lt (by omega) (by have := hbB; rw [qI] at this; show (hb : Int) < 2 ^ 64; omega)
   rw [this, bB hbB]
  obtain ⟨t, ht⟩ : ∃ t, t = h + lo := ⟨_, rfl⟩
  rw [← ht] at e4
  rw [← hj] at hlh
  have hjN : j < N := by omega
  have hj1N : j1 < N := by omega
  have hjl : j < l.length := by omega
  have hz1 : l[j1]? = some 0 := by
   have := congrArg (fun t => t[0]?) hz
   simp only [List.getElem?_drop] at this
   rw [← hj, ← hj1, List.getElem?_replicate, if_pos (by omega)] at this
   exact this
  have hne : j ≠ j1 := by omega
  obtain ⟨s1, s2, s3, s4, s5⟩ := left_step (j := j) hwl hsum hbB (by omega)
  rw [← hj1] at s1 s2 s3 s4 s5
  have hfin : ∀ L : List Nat, L = (l.set j (h + lo)).set j1 hb → i + 1 ≤ len a ∧ L.length = N ∧ Wf L ∧ hb < 2 ^ s ∧ L[i + 1 + w]? = some hb ∧ val (L.take (i + 1 + w)) + B ^ (i + 1 + w) * hb = val ((zc a).take (i + 1)) * 2 ^ n ∧
    L.drop (i + 1 + w + 1) = List.replicate (len a - (i + 1)) 0 := by
   rintro L rfl
   rw [show i + 1 + w = j1 by omega]
   refine ⟨by omega, by omega, s1, hbl, s4, ?_, ?_⟩
   ·rw [s3, zA hx, hlo, hhb, hj1, Nat.pow_succ]
    refine eK (by rw [hj]; exact hv) ?_
    rw [hpow, hj, Nat.pow_add]
    rw [Nat.mul_assoc, Nat.mul_comm]
   ·rw [show j1 + 1 = j + 2 by omega, s5, show j + 2 = (i + w + 1) + 1 by omega, ← List.drop_drop, hz, List.drop_replicate, show len a - i - 1 = len a - (i + 1) by omega]
  by_cases hs0 : 0 < s
  ·have hsI : (0 : Int) < s := by omega
   simp [-BitVec.toNat_or, h1, h5, h6, h19, h20, h21, hlt, zZ hx, la, q1', hw3, hw4, e1, e2, e3, e4, e5, hjN, hj1N, hlh, hz1, hne, hs0, zH, zs (i := i) (by omega), zD]
   obtain ⟨c1, c2, c3, c4, c5, c6, c7⟩ := hfin _ rfl
   exact ⟨⟨i + 1, c1, hb, _, c2, c3, c4, c5, c6, c7, by rw [List.map_set, List.map_set, ← ht]; rfl, by omega⟩, by omega⟩
  ·have hsz : s = 0 := by omega
   subst hsz
   have e1 : qw .shl .u64 (x : Int) 0 = some (.int .u64 lo) := e1
   simp [-BitVec.toNat_or, h1, h5, h6, h19, h20, h21, hlt, zZ hx, la, q1', hw3, e1, e4, hjN, hlh, zH, zs (i := i) (by omega), zD]
   have hb0 : hb = 0 := by omega
   have hL : l.set j (h + lo) = (l.set j (h + lo)).set j1 hb := by
    rw [hb0]
    exact (gv (by rw [List.getElem?_set_ne (by omega)]; exact hz1)).symm
   obtain ⟨c1, c2, c3, c4, c5, c6, c7⟩ := hfin _ hL
   exact ⟨⟨i + 1, c1, hb, _, c2, c3, hb0, c5, c6, c7, by rw [List.map_set, ← ht]; rfl, by omega⟩, by omega⟩
 ·have hil : i = len a := by omega
  subst hil
  have hvl : val l = a * 2 ^ n := by
   have h2 := ye l (i := len a + w) (by omega)
   rw [je hlh, hz, Nat.sub_self, List.replicate_zero] at h2
   rw [h2, q9, qg, Nat.mul_zero, Nat.add_zero, hv, List.take_of_length_le (by omega), zw]
  obtain ⟨hT, ht⟩ := jS hl hwl (by omega) hvl
  simp [h5, h20, h21, zH, hl, hT, ht, zO, zQ, Ttr_mu, iY]
theorem rI (l : List Nat) : u3 1 (l.map u64) = true := by
 simp [u3]
def dB : List PVal → Option PVal
 | [.lst xs, .int .i64 n] => match vM xs with | some a => if 0 ≤ n ∧ n < 9223372036854775807 then some (wD (a / 2 ^ n.toNat)) else none | _ => none
 | _ => none
theorem lK {a n : Nat} (ha : len a ≤ 100000) (hn : n < 9223372036854775807) : dB [.lst ((zc a).map u64), .int .i64 n] = some (.lst ((zc (a / 2 ^ n)).map u64)) := by
 simp only [dB, zM ha]
 rw [if_pos ⟨by omega, by omega⟩]
 rfl
theorem so {A : List Nat} {i x s : Nat} (wA : Wf A) (hx : A[i]? = some x) (hs : s ≤ 64) : val A / 2 ^ s / B ^ i % B =
  if h : s = 0 then x else match A[i + 1]? with | some y => x / 2 ^ s + y * 2 ^ (64 - s) % B | none => x / 2 ^ s := by
 have hxB := wA.get hx
 have e : val A / 2 ^ s / B ^ i = val (A.drop i) / 2 ^ s := by rw [wP wA, Nat.div_div_eq_div_mul, Nat.div_div_eq_div_mul, Nat.mul_comm]
 rw [e, vC hx]
 split
 ·rename_i h
  subst h
  rw [Nat.pow_zero, Nat.div_one, Nat.add_mul_mod_self_left, Nat.mod_eq_of_lt hxB]
 ·cases hy : A[i + 1]? with
  | some y => rw [vC hy]; exact shr_limb hs hxB
  | none =>
   have := List.getElem?_eq_none_iff.1 hy
   rw [List.drop_eq_nil_of_le this, qg, Nat.mul_zero, Nat.add_zero]
   exact Nat.mod_eq_of_lt (Nat.lt_of_le_of_lt (Nat.div_le_self _ _) hxB)
theorem am : zG Tryz.prog base 157 (za dB) := by
 refine zd zB Ttr_ok ze low157 fun args z hs hf => ?_
 unfold dB at hs
 split at hs
 case h_2 => cases hs
 rename_i xs n
 split at hs
 case h_2 => cases hs
 rename_i a ha
 split at hs
 case isFalse => cases hs
 rename_i hn
 cases hs
 obtain ⟨rfl, hla⟩ := zE ha
 obtain ⟨n, rfl⟩ := Int.eq_ofNat_of_zero_le hn.1
 simp only [Int.toNat_natCast] at hn ⊢
 have hn := hn.2
 refine ⟨by simp [lf157], ?_⟩
 have la : (zc a).length = len a := rfl
 have wa := zC a
 obtain ⟨w, hw⟩ : ∃ w, w = n / 64 := ⟨_, rfl⟩
 obtain ⟨s, hs⟩ : ∃ s, s = n % 64 := ⟨_, rfl⟩
 have hs64 : s < 64 := by omega
 have q1' : IntKind.i64.wrap ((n : Int) / 64) = (w : Int) := by rw [IntWalk.i64_in _ (by omega)]; omega
 have q1 : IntKind.i64.wrap ((n : Int).tdiv 64) = (w : Int) := by rw [Int.tdiv_eq_ediv_of_nonneg (by omega), q1']
 have q2 : (n : Int).tmod 64 = (s : Int) := by rw [Int.tmod_eq_emod_of_nonneg (by omega)]; omega
 have q3 : IntKind.u64.wrap (s : Int) = s := IntWalk.u64_in _ (by omega)
 have hpow : 2 ^ n = B ^ w * 2 ^ s := by rw [bw, ← Nat.pow_add, show 64 * w + s = n by omega]
 by_cases hwl : len a ≤ w
 ·have hz : a / 2 ^ n = 0 := by
   refine Nat.div_eq_of_lt (Nat.lt_of_lt_of_le (vt a) (Nat.le_trans (jZ hwl) ?_))
   rw [hpow]
   exact Nat.le_mul_of_pos_right _ (Nat.two_pow_pos s)
  rw [hz]
  simp [lf157, la, q1', hwl, wD, jb, zy]
 ·obtain ⟨A, hA⟩ : ∃ A, A = (zc a).drop w := ⟨_, rfl⟩
  have wA : Wf A := by rw [hA]; exact wa.drop _
  have hAv : val A = a / B ^ w := by rw [hA, wP wa, zw]
  have hAl : A.length = len a - w := by rw [hA]; simp [la]
  have hAA : List.drop w (List.take (len a) (List.map u64 (zc a))) = A.map u64 := by
   rw [List.take_of_length_le (by simp [la]), hA, List.map_drop]
  have hAA' : List.drop w (List.map u64 (zc a)) = A.map u64 := by rw [hA, List.map_drop]
  have hwle : w ≤ len a := by omega
  have hdiv : a / 2 ^ n = val A / 2 ^ s := by rw [hAv, Nat.div_div_eq_div_mul, ← hpow]
  have hcap := wI A.length (by omega)
  rw [hdiv]
  simp [lf157, la, q1', q2, q3, hwl, hwle, hAA, rI, hcap]
  simp only [lf157_B0, zr]
  refine zo (fun fr H => ∃ (i : Nat) (l : List Nat), i ≤ A.length ∧ l.length = A.length ∧ Wf l ∧ val (l.take i) = val A / 2 ^ s % B ^ i ∧ H = [zH 0 l] ∧ fr 0 = .p (.lst (A.map u64)) ∧
    fr 5 = .p (.int .u64 s) ∧ fr 6 = .own 0 0 A.length 0 ∧ fr 24 = .p (.lst (A.map u64)) ∧ fr 25 = .p (.int .i64 A.length) ∧ fr 26 = .p (.int .i64 i))
   (fun fr _ => A.length - zD (fr 26)) ⟨0, List.replicate A.length 0, by omega, by simp, Wf.zeros _, by simp [qg, Nat.mod_one], by simp [zH], by simp, by simp, by simp, by simp, by simp, by simp⟩ ?_
  rintro fr H ⟨i, l, hi, hl, hwfl, hv, rfl, h0, h5, h6, h24, h25, h26⟩
  by_cases hlt : i < A.length
  ·obtain ⟨x, hx⟩ : ∃ x, A[i]? = some x := ⟨_, List.getElem?_eq_getElem hlt⟩
   have hxB := wA.get hx
   have hil : i < l.length := by omega
   obtain ⟨o, ho⟩ : ∃ o, l[i]? = some o := ⟨_, List.getElem?_eq_getElem hil⟩
   obtain ⟨xs, hxs⟩ : ∃ t, t = x / 2 ^ s := ⟨_, rfl⟩
   have hxsB : xs < B := by rw [hxs]; exact Nat.lt_of_le_of_lt (Nat.div_le_self _ _) hxB
   have e1 : qw .shr .u64 x s = some (.int .u64 xs) := by rw [ja (by omega), hxs]
   have hlimb := so wA hx (show s ≤ 64 by omega)
   have step : ∀ t, val A / 2 ^ s / B ^ i % B = t → val ((l.set i t).take (i + 1)) = val A / 2 ^ s % B ^ (i + 1) := fun t ht => by
    rw [z3 hil, hv, aN ht]
   have hw5 := zs (i := i) (by omega)
   by_cases hs0 : s = 0
   ·rw [dif_pos hs0] at hlimb
    subst hs0
    have e1 : qw .shr .u64 (x : Int) 0 = some (.int .u64 xs) := e1
    have hxx : xs = x := by rw [hxs]; simp
    subst hxx
    simp [h0, h5, h6, h24, h25, h26, hlt, zZ hx, e1, hil, zZ ho, zH, hw5, zD]
    exact ⟨⟨i + 1, by omega, l.set i xs, by simp [hl], hwfl.set _ hxsB, by simpa using step _ hlimb, by rw [List.map_set]; rfl, by omega⟩, by omega⟩
   ·rw [dif_neg hs0] at hlimb
    have hsI : (0 : Int) < s := by omega
    have hsN : 0 < s := by omega
    by_cases hlt2 : i + 1 < A.length
    ·obtain ⟨y, hy⟩ : ∃ y, A[i + 1]? = some y := ⟨_, List.getElem?_eq_getElem hlt2⟩
     rw [hy] at hlimb
     simp only at hlimb
     obtain ⟨lo, hlo⟩ : ∃ t, t = y * 2 ^ (64 - s) % B := ⟨_, rfl⟩
     have hloB : lo < B := by rw [hlo]; exact Nat.mod_lt _ qf
     have e2 : qw .shl .u64 y ((64 - s : Nat) : Int) = some (.int .u64 lo) := by rw [kC (by omega), hlo]
     have e3 : IntKind.u64.wrap (64 - (s : Int)) = ((64 - s : Nat) : Int) := by rw [IntWalk.u64_in _ (by omega)]; omega
     have e4 := cJ hxsB hloB
     rw [show xs ||| lo = xs + lo by rw [hxs, hlo]; exact shr_or (by omega) hxB] at e4
     obtain ⟨t, ht⟩ : ∃ t, t = xs + lo := ⟨_, rfl⟩
     rw [← ht] at e4
     have htB : t < B := by rw [← hxs, ← hlo, ← ht] at hlimb; rw [← hlimb]; exact Nat.mod_lt _ qf
     obtain ⟨i1, hi1⟩ : ∃ k, k = i + 1 := ⟨_, rfl⟩
     rw [← hi1] at hw5 hy
     have hlt3 : i1 < A.length := by omega
     rw [← hxs, ← hlo, ← ht] at hlimb
     simp [h0, h5, h6, h24, h25, h26, hlt, hlt3, zZ hx, e1, hil, zZ ho, hsN, zH, hw5]
     rw [zu]
     refine ⟨[], ?_⟩
     simp [-BitVec.toNat_or, h0, h5, h6, h24, h25, h26, hlt, hlt3, zZ hy, e2, e3, e4, hil, hw5, zD]
     exact ⟨⟨i1, by omega, l.set i t, by simp [hl], hwfl.set _ htB, by rw [hi1]; exact step _ hlimb, by rw [List.map_set]; rfl, rfl⟩, by omega⟩
    ·have hy : A[i + 1]? = none := List.getElem?_eq_none (by omega)
     rw [hy] at hlimb
     simp only at hlimb
     rw [← hxs] at hlimb
     obtain ⟨i1, hi1⟩ : ∃ k, k = i + 1 := ⟨_, rfl⟩
     rw [← hi1] at hw5
     have hlt3 : ¬ i1 < A.length := by omega
     simp [h0, h5, h6, h24, h25, h26, hlt, hlt3, zZ hx, e1, hil, zZ ho, hsN, zH, hw5, zD]
     exact ⟨⟨i1, by omega, l.set i xs, by simp [hl], hwfl.set _ hxsB, by rw [hi1]; exact step _ hlimb, by rw [List.map_set]; rfl, rfl⟩, by omega⟩
  ·have hil : i = A.length := by omega
   subst hil
   have hvl : val l = val A / 2 ^ s := by
    rw [List.take_of_length_le (by omega)] at hv
    rw [hv]
    exact Nat.mod_eq_of_lt (Nat.lt_of_le_of_lt (Nat.div_le_self _ _) (ui wA))
   obtain ⟨hT, ht⟩ := jS hl hwfl (by omega) hvl
   simp [h6, h25, h26, zH, hl, hT, ht, zO, zQ, Ttr_mu, iY]
def Tgs : Tab := ((Tab.none.with 143 (za yO)).with 160 (za dE)).ext 144 vY
theorem Tgs_ok : TabOk Tryz.prog base Tgs := Tab.ext_ok (Tab.with_ok (Tab.with_ok Tab.none_ok sE) io) mr
theorem dX (f : FuncId) (a : List AVal) (H : zb) : Tgs.mu f a H = none := (rfl)
theorem cU : Tgs.fn 143 = za yO := (rfl)
theorem Tgs_div : Tgs.fn 160 = za dE := (rfl)
theorem pZ : Tgs.ex 144 = vY := (rfl)
def mL : List PVal → Option PVal
 | [.int .u64 h, .int .u64 l, .int .u64 x, .int .u64 d, .int .u64 e] => if (0 ≤ h ∧ h.toNat < B) ∧ (0 ≤ l ∧ l.toNat < B) ∧ (0 ≤ x ∧ x.toNat < B) ∧ (0 ≤ d ∧ d.toNat < B) ∧ (0 ≤ e ∧ e.toNat < B) then
   some (.int .u64 (kO h.toNat l.toNat x.toNat d.toNat e.toNat)) else none
 | _ => none
theorem lO {h l x d e : Nat} (hh : h < B) (hl : l < B) (hx : x < B) (hd : d < B) (he : e < B) : mL [.int .u64 h, .int .u64 l, .int .u64 x, .int .u64 d, .int .u64 e] = some (.int .u64 (kO h l x d e)) := by
 unfold mL
 simp only [Int.toNat_natCast]
 rw [if_pos ⟨⟨by omega, hh⟩, ⟨by omega, hl⟩, ⟨by omega, hx⟩, ⟨by omega, hd⟩, ⟨by omega, he⟩⟩]
theorem guess_cond {q d r x : Nat} (hx : x < B) : q * d ≤ r * B + x ↔ cY q d < r ∨ cY q d = r ∧ jU q d ≤ x := by
 have e := Nat.mod_add_div (q * d) B
 have h1 := Nat.mod_lt (q * d) qf
 unfold cY jU
 generalize q * d / B = m at *
 generalize q * d % B = n at *
 constructor
 ·intro h
  by_cases h2 : m < r
  ·exact .inl h2
  ·by_cases h3 : m = r
   ·subst h3
    rw [Nat.mul_comm m B] at h
    exact .inr ⟨rfl, by omega⟩
   ·exfalso
    have : B * (r + 1) ≤ B * m := Nat.mul_le_mul_left _ (by omega)
    rw [Nat.mul_add, Nat.mul_one, Nat.mul_comm B r] at this
    omega
 ·rintro (h | ⟨rfl, h⟩)
  ·have : B * (m + 1) ≤ B * r := Nat.mul_le_mul_left _ (by omega)
   rw [Nat.mul_add, Nat.mul_one, Nat.mul_comm B r] at this
   omega
  ·rw [Nat.mul_comm m B]; omega
theorem guessL_hit {d1 d2 x q r : Nat} (h : q * d2 ≤ r * B + x) : vJ d1 d2 x q r = q := by
 cases q with
 | zero => rfl
 | succ q => rw [vJ, if_pos h]
theorem aZ {d1 d2 x q r : Nat} (h : ¬ (q + 1) * d2 ≤ r * B + x) (h2 : B ≤ r + d1) : vJ d1 d2 x (q + 1) r = q := by rw [vJ, if_neg h, if_pos h2]
theorem a7 {d1 d2 x q r : Nat} (h : ¬ (q + 1) * d2 ≤ r * B + x) (h2 : ¬ B ≤ r + d1) : vJ d1 d2 x (q + 1) r = vJ d1 d2 x q (r + d1) := by rw [vJ, if_neg h, if_neg h2]
theorem guess_ok : zG Tryz.prog base 154 (za mL) := by
 refine zd zB Tgs_ok ze low154 fun args z hs hf => ?_
 unfold mL at hs
 split at hs
 case h_2 => cases hs
 rename_i h l x d e
 split at hs
 case isFalse => cases hs
 rename_i hc
 cases hs
 obtain ⟨h, rfl⟩ := Int.eq_ofNat_of_zero_le hc.1.1
 obtain ⟨l, rfl⟩ := Int.eq_ofNat_of_zero_le hc.2.1.1
 obtain ⟨x, rfl⟩ := Int.eq_ofNat_of_zero_le hc.2.2.1.1
 obtain ⟨d, rfl⟩ := Int.eq_ofNat_of_zero_le hc.2.2.2.1.1
 obtain ⟨e, rfl⟩ := Int.eq_ofNat_of_zero_le hc.2.2.2.2.1
 simp only [Int.toNat_natCast] at hc ⊢
 obtain ⟨⟨-, hh⟩, ⟨-, hl⟩, ⟨-, hx⟩, ⟨-, hd⟩, ⟨-, he⟩⟩ := hc
 refine ⟨by simp [lf154], ?_⟩
 by_cases hdh : d ≤ h
 ·have hg : (kO h l x d e : Int) = 18446744073709551615 := by
   unfold kO
   rw [if_pos hdh]
   rfl
  simp [lf154, hdh, hg]
 ·obtain ⟨G, hG⟩ : ∃ G, G = kO h l x d e := ⟨_, rfl⟩
  have hG2 := hG
  unfold kO at hG2
  rw [if_neg hdh] at hG2
  have hD := r9 (show h < d by omega) hl hd
  rw [← hG]
  simp [lf154, hdh, hD, dX, Tgs_div]
  simp only [lf154_B0, zr]
  refine zo (fun fr H => ∃ q r : Nat, q < B ∧ r < B ∧ G = vJ d e x q r ∧ H = [] ∧ fr 2 = .p (.int .u64 x) ∧ fr 3 = .p (.int .u64 d) ∧ fr 4 = .p (.int .u64 e) ∧ fr 11 = .p (.int .u64 q) ∧ fr 12 = .p (.int .u64 r))
   (fun fr _ => zD (fr 11)) ⟨il h l d, ik h l d, div_lt (by omega) hl, Nat.lt_of_lt_of_le (Nat.mod_lt _ (by omega)) (by omega), hG2, rfl, by simp, by simp, by simp, by simp, by simp⟩ ?_
  rintro fr H ⟨q, r, hq, hr, hg, rfl, h2, h3, h4, h11, h12⟩
  have hM := yM hq he
  have hcond := guess_cond (q := q) (d := e) (r := r) hx
  have go : q * e ≤ r * B + x → G = q := fun hc => by rw [hg, guessL_hit hc]
  have stop : ¬ q * e ≤ r * B + x → ∃ q', q = q' + 1 := fun hc => by
   rcases Nat.eq_zero_or_pos q with h0 | h0
   ·subst h0; exact absurd (by simp) hc
   ·exact ⟨q - 1, by omega⟩
  obtain ⟨m, hm⟩ : ∃ m, m = cY q e := ⟨_, rfl⟩
  obtain ⟨n, hn⟩ : ∃ n, n = jU q e := ⟨_, rfl⟩
  rw [← hm, ← hn] at hM hcond
  have rest : ∀ q', q = q' + 1 → ¬ q * e ≤ r * B + x → IntKind.u64.wrap ((q : Int) - 1) = (q' : Int) := fun q' e1 _ => by rw [IntWalk.u64_in _ (by rw [qI] at hq; omega)]; omega
  have hA := jA (x := r) (y := d)
  have over : 0 < jx r d 0 ↔ B ≤ r + d := by
   unfold jx
   rw [Nat.add_zero, Nat.div_pos_iff]
   have := qf
   omega
  have same : ¬ B ≤ r + d → wo r d 0 = r + d := fun h => by unfold wo; rw [Nat.add_zero, Nat.mod_eq_of_lt (by omega)]
  obtain ⟨r', hr'⟩ : ∃ t, t = wo r d 0 := ⟨_, rfl⟩
  obtain ⟨o, ho⟩ : ∃ t, t = jx r d 0 := ⟨_, rfl⟩
  rw [← hr', ← ho] at hA
  rw [← ho] at over
  rw [← hr'] at same
  by_cases c1 : m < r
  ·have := go (hcond.2 (.inl c1))
   subst this
   simp [h4, h11, h12, hM, c1, dX, cU]
  ·have tail : ¬ q * e ≤ r * B + x → ∃ q', q = q' + 1 ∧ IntKind.u64.wrap ((q : Int) - 1) = (q' : Int) ∧ q' < B ∧ ((0 < o ∧ G = q') ∨ (¬ 0 < o ∧ G = vJ d e x q' r' ∧ r' < B)) := fun hc => by
    obtain ⟨q', e1⟩ := stop hc
    refine ⟨q', e1, rest q' e1 hc, by omega, ?_⟩
    subst e1
    by_cases h0 : 0 < o
    ·exact .inl ⟨h0, by rw [hg, aZ hc (over.1 h0)]⟩
    ·have h5 : ¬ B ≤ r + d := fun h6 => h0 (over.2 h6)
     exact .inr ⟨h0, by rw [hg, a7 hc h5, same h5], by rw [same h5]; omega⟩
   by_cases c2 : m = r
   ·have hb2 : ((m : Int) == (r : Int)) = true := by simp [c2]
    by_cases c3 : n ≤ x
    ·have := go (hcond.2 (.inr ⟨c2, c3⟩))
     subst this
     simp [h2, h4, h11, h12, hM, c1, hb2, c3, dX, cU]
    ·obtain ⟨q', e1, e2, e3, e4⟩ := tail (fun hc => by rcases hcond.1 hc with h | ⟨_, h⟩ <;> omega)
     rcases e4 with ⟨e5, e6⟩ | ⟨e5, e6, e7⟩
     ·subst e6
      have e5I : (0 : Int) < o := by omega
      simp [h2, h3, h4, h11, h12, hM, c1, hb2, c3, e2, hA, e5, dX, cU, pZ]
     ·have e5I : ¬ (0 : Int) < o := by omega
      simp [h2, h3, h4, h11, h12, hM, c1, hb2, c3, e2, hA, e5, dX, cU, pZ, zD]
      exact ⟨⟨q', e3, r', e7, e6, rfl, rfl⟩, by omega⟩
   ·have hb2 : ((m : Int) == (r : Int)) = false := beq_false_of_ne (by omega)
    obtain ⟨q', e1, e2, e3, e4⟩ := tail (fun hc => by rcases hcond.1 hc with h | ⟨h, _⟩ <;> omega)
    rcases e4 with ⟨e5, e6⟩ | ⟨e5, e6, e7⟩
    ·subst e6
     have e5I : (0 : Int) < o := by omega
     simp [h3, h4, h11, h12, hM, c1, hb2, e2, hA, e5, dX, cU, pZ]
    ·have e5I : ¬ (0 : Int) < o := by omega
     simp [h2, h3, h4, h11, h12, hM, c1, hb2, e2, hA, e5, dX, cU, pZ, zD]
     exact ⟨⟨q', e3, r', e7, e6, rfl, rfl⟩, by omega⟩
theorem comp_au : AVal.p ∘ u64 = au := rfl
def vr : List PVal → Option PVal
 | [.lst es] => match jJ es with | some l => if l.length ≤ 1000000 then some (jb l) else none | none => none
 | _ => none
theorem ko {a : Nat} (ha : len a ≤ 100000) : vr [.lst ((zc a).map u64)] = some (.lst ((zc a).map u64)) := by
 simp only [vr, zX (zC a)]
 rw [if_pos (by have : (zc a).length = len a := rfl; omega)]
 rfl
theorem yv : zG Tryz.prog base 117 (za vr) := by
 refine zd zB Tab.none_ok ze low117 fun args z hs hf => ?_
 unfold vr at hs
 split at hs
 case h_2 => cases hs
 rename_i es
 split at hs
 case h_2 => cases hs
 rename_i l hd
 split at hs
 case isFalse => cases hs
 rename_i hl
 cases hs
 obtain ⟨rfl, hw⟩ := zI hd
 refine ⟨by simp [lf117], ?_⟩
 have hcap := wI l.length hl
 have hcapN := mul_cap l.length hl
 cases l with
 | nil => simp [lf117, jb, zN]
 | cons x r =>
  simp at hcap hcapN
  simp [lf117, jb, zN, comp_au, hcapN, zO]
  exact List.take_of_length_le (by simp)
theorem aD (l : List Nat) (off n v : Nat) : part l off n v = part l off n (v % B ^ n) := by
 unfold part
 rw [fix_mod]
theorem join_take {p s q : List Nat} : (join p s q).take p.length = p := by
 unfold join; rw [List.append_assoc, List.take_left]
theorem join_drop {p s q : List Nat} : (join p s q).drop (p.length + s.length) = q := by
 unfold join; rw [← List.length_append, List.drop_left]
theorem join_mid {p s q : List Nat} : ((join p s q).drop p.length).take s.length = s := by
 unfold join; rw [List.append_assoc, List.drop_left, List.take_left]
theorem part_part {l : List Nat} {off n : Nat} (h : off + n ≤ l.length) (v w : Nat) : part (part l off n v) off n w = part l off n w := by
 have h1 : (l.take off).length = off := by simp; omega
 have e1 : (part l off n v).take off = l.take off := by
  have := join_take (p := l.take off) (s := fix n v) (q := l.drop (off + n))
  rw [h1] at this
  exact this
 have e2 : (part l off n v).drop (off + n) = l.drop (off + n) := by
  have := join_drop (p := l.take off) (s := fix n v) (q := l.drop (off + n))
  rw [h1, qz] at this
  exact this
 rw [part, e1, e2]; rfl
theorem seg_part {l : List Nat} {off n : Nat} (h : off + n ≤ l.length) {v : Nat} (hv : v < B ^ n) : seg (part l off n v) off n = v := by
 have h1 : (l.take off).length = off := by simp; omega
 have := join_mid (p := l.take off) (s := fix n v) (q := l.drop (off + n))
 rw [h1, qz] at this
 unfold seg
 rw [show part l off n v = join (l.take off) (fix n v) (l.drop (off + n)) from rfl, this, yG hv]
theorem fix_get : ∀ (n v i : Nat), i < n → (fix n v)[i]? = some (v / B ^ i % B)
 | 0, _, _, h => by omega
 | n + 1, v, 0, _ => by simp [fix]
 | n + 1, v, i + 1, h => by
  simp only [fix, List.getElem?_cons_succ]
  rw [fix_get n (v / B) i (by omega), Nat.div_div_eq_div_mul, Nat.pow_succ, Nat.mul_comm B]
theorem aC {l : List Nat} {off n : Nat} (h : off + (n + 1) ≤ l.length) {v : Nat} (hv : v < B ^ (n + 1)) : (part l off (n + 1) v)[off + n]? = some (v / B ^ n) := by
 have h1 : (l.take off).length = off := by simp; omega
 have := uF (p := l.take off) (s := fix (n + 1) v) (q := l.drop (off + (n + 1))) (i := n) (by rw [qz]; omega)
 rw [h1, fix_get _ _ _ (by omega)] at this
 rw [show part l off (n + 1) v = join (l.take off) (fix (n + 1) v) (l.drop (off + (n + 1))) from rfl, this]
 rw [Nat.mod_eq_of_lt (by rw [Nat.div_lt_iff_lt_mul (vQ n), Nat.mul_comm, ← Nat.pow_succ]; exact hv)]
def Corr (X b m Q k Y : Nat) (over : Bool) : Prop := match over with
 | true => X < k * b ∧ Y = X + B ^ m - k * b
 | false => k = Q ∧ Y = X % b
theorem corr_first {X b n k Q : Nat} (hb0 : 0 < b) (hb : b < B ^ n) (hk : k < B) (hQ : Q = X / b) (hge : Q ≤ k) :
  Corr X b (n + 1) Q k ((X + B ^ (n + 1) - b * k) % B ^ (n + 1)) (decide (X < b * k)) := by
 have hkb : b * k < B ^ (n + 1) := by rw [Nat.pow_succ]; exact Nat.mul_lt_mul'' hb hk
 by_cases h : X < b * k
 ·have : decide (X < b * k) = true := by simpa using h
  rw [this]
  refine ⟨by rw [Nat.mul_comm]; exact h, ?_⟩
  rw [Nat.mod_eq_of_lt (by omega), Nat.mul_comm]
 ·have : decide (X < b * k) = false := by simpa using h
  rw [this]
  have hkQ : k ≤ Q := by rw [hQ, Nat.le_div_iff_mul_le hb0, Nat.mul_comm]; omega
  have e : k = Q := by omega
  refine ⟨e, ?_⟩
  have h2 := Nat.div_add_mod X b
  rw [← hQ, ← e] at h2
  rw [show X + B ^ (n + 1) - b * k = X % b + B ^ (n + 1) by omega, Nat.add_mod_right, Nat.mod_eq_of_lt]
  exact Nat.lt_trans (Nat.mod_lt _ hb0) (Nat.lt_of_lt_of_le hb (jZ (by omega)))
theorem corr_lt {X b n k Q Y : Nat} {over : Bool} (hb0 : 0 < b) (hb : b < B ^ n) (h : Corr X b (n + 1) Q k Y over) : Y < B ^ (n + 1) := by
 cases over with
 | true => obtain ⟨h1, h2⟩ := h; have := vQ (n + 1); omega
 | false => obtain ⟨h1, h2⟩ := h; rw [h2]; exact Nat.lt_trans (Nat.mod_lt _ hb0) (Nat.lt_of_lt_of_le hb (jZ (by omega)))
theorem corr_next {X b n k Q Y : Nat} (hb0 : 0 < b) (hb : b < B ^ n) (hk : k < B) (hQ : Q = X / b) (h : Corr X b (n + 1) Q k Y true) :
  0 < k ∧ Corr X b (n + 1) Q (k - 1) ((Y + b) % B ^ (n + 1)) (decide (Y / B ^ n ≤ (Y + b) % B ^ (n + 1) / B ^ n)) := by
 obtain ⟨h1, h2⟩ := h
 have hkb : k * b ≤ B ^ (n + 1) := by rw [Nat.pow_succ, Nat.mul_comm]; exact Nat.le_of_lt (Nat.mul_lt_mul'' hb hk)
 have hk0 : 0 < k := by
  rcases Nat.eq_zero_or_pos k with h | h
  ·subst h; simp at h1
  ·exact h
 obtain ⟨m1, m2⟩ := more_over hb h1 hkb h2
 refine ⟨hk0, ?_⟩
 by_cases h3 : X < (k - 1) * b
 ·obtain ⟨m3, m4⟩ := m1 h3
  have : decide (Y / B ^ n ≤ (Y + b) % B ^ (n + 1) / B ^ n) = true := by simpa using m4
  rw [this, m3]
  exact ⟨h3, rfl⟩
 ·obtain ⟨m3, m4⟩ := m2 h3
  have : decide (Y / B ^ n ≤ (Y + b) % B ^ (n + 1) / B ^ n) = false := by simpa using m4
  rw [this, m3]
  have h4 : k - 1 ≤ Q := by rw [hQ, Nat.le_div_iff_mul_le hb0]; omega
  have h5 : Q < k := by rw [hQ, Nat.div_lt_iff_lt_mul hb0]; exact h1
  have e : k - 1 = Q := by omega
  refine ⟨e, ?_⟩
  rw [e, hQ]
  have := Nat.div_add_mod X b
  rw [Nat.mul_comm] at this
  omega
def Tq0 : Tab := (((((((Tab.none.with 139 (za qF)).with 117 (za vr)).with 106 (za qX)).with 151 (za cC)).with 152 (za r7)).with 153 (za rZ)).with 157 (za dB)).with 154 (za mL)
def Tq : Tab := (Tq0.own 155 lessM).own 156 xz
theorem Tq_ok : TabOk Tryz.prog base Tq := Tab.own_ok (Tab.own_ok (Tab.with_ok (Tab.with_ok (Tab.with_ok (Tab.with_ok (Tab.with_ok (Tab.with_ok (Tab.with_ok (Tab.with_ok Tab.none_ok cx) yv) bQ) byLimb_ok) lead_ok) left_ok) am) guess_ok) less_ok) more_ok
theorem Tq_less : Tq.mu 155 = lessM := (rfl)
theorem Tq_more : Tq.mu 156 = xz := (rfl)
theorem i8 (a : List AVal) (H : zb) : Tq.mu 139 a H = none ∧ Tq.mu 117 a H = none ∧ Tq.mu 106 a H = none ∧ Tq.mu 151 a H = none ∧ Tq.mu 152 a H = none ∧ Tq.mu 153 a H = none ∧ Tq.mu 157 a H = none ∧ Tq.mu 154 a H = none :=
 ⟨rfl, rfl, rfl, rfl, rfl, rfl, rfl, rfl⟩
theorem o3 : Tq.fn 139 = za qF := (rfl)
theorem Tq_clone : Tq.fn 117 = za vr := (rfl)
theorem tE : Tq.fn 106 = za qX := (rfl)
theorem Tq_by : Tq.fn 151 = za cC := (rfl)
theorem Tq_lead : Tq.fn 152 = za r7 := (rfl)
theorem Tq_left : Tq.fn 153 = za rZ := (rfl)
theorem Tq_right : Tq.fn 157 = za dB := (rfl)
theorem Tq_guess : Tq.fn 154 = za mL := (rfl)
theorem corr_loop {b n i N X Q k0 Y0 : Nat} {o0 : Bool} {l0 : List Nat} {qe : Ent} {g4 : AVal} {R : LExit → AFr → zb → Prop} {fr : AFr} {H : zb} (hw : Wf l0) (hl : l0.length = N) (hN : N ≤ 1000000) (him : i + (n + 1) ≤ N) (hb0 : 0 < b) (hbn : len b = n) (hn : n ≤ 100000) (hQ : Q = X / b)
  (hk : k0 < B) (hc : Corr X b (n + 1) Q k0 Y0 o0) (hH : H = [zH 0 (part l0 i (n + 1) Y0), qe])
  (h1 : fr 1 = .p (.lst ((zc b).map u64))) (h4 : fr 4 = g4) (h8 : fr 8 = .p (.int .i64 n)) (h10 : fr 10 = .own 0 0 N 0) (h11 : fr 11 = .p (.int .i64 i)) (h12 : fr 12 = .p (.int .u64 k0)) (h13 : fr 13 = .p (.bool o0))
  (hR : ∀ fr' : AFr, fr' 1 = .p (.lst ((zc b).map u64)) → fr' 4 = g4 → fr' 8 = .p (.int .i64 n) → fr' 10 = .own 0 0 N 0 → fr' 11 = .p (.int .i64 i) → fr' 12 = .p (.int .u64 Q) → (∀ j, j = 0 ∨ j = 9 → fr' j = fr j) → R .normal fr' [zH 0 (part l0 i (n + 1) (X % b)), qe]) :
  vc Tq lf137_B0 R fr H := by
 have hbB : b < B ^ n := by rw [← hbn]; exact vt b
 simp only [lf137_B0, zr]
 refine zo (fun fr' H => ∃ (k Y : Nat) (o : Bool), k < B ∧ Corr X b (n + 1) Q k Y o ∧ H = [zH 0 (part l0 i (n + 1) Y), qe] ∧ fr' 1 = .p (.lst ((zc b).map u64)) ∧ fr' 4 = g4 ∧ fr' 8 = .p (.int .i64 n) ∧ fr' 10 = .own 0 0 N 0 ∧ fr' 11 = .p (.int .i64 i) ∧
   fr' 12 = .p (.int .u64 k) ∧ fr' 13 = .p (.bool o) ∧ (∀ j, j = 0 ∨ j = 9 → fr' j = fr j)) (fun fr _ => zD (fr 12)) ⟨k0, Y0, o0, hk, hc, hH, h1, h4, h8, h10, h11, h12, h13, fun _ _ => rfl⟩ ?_
 rintro fr' H' ⟨k, Y, o, hk, hc, rfl, h1, h4, h8, h10, h11, h12, h13, hkeep⟩
 have k0' := hkeep 0 (.inl rfl)
 have k9' := hkeep 9 (.inr rfl)
 have hY := corr_lt hb0 hbB hc
 cases o with
 | false =>
  obtain ⟨rfl, rfl⟩ := hc
  simp [h13]
  exact hR _ (by simp [h1]) (by simp [h4]) (by simp [h8]) (by simp [h10]) (by simp [h11]) (by simp [h12]) (by rintro j (rfl | rfl) <;> simp [k0', k9'])
 | true =>
  obtain ⟨hk0, hc'⟩ := corr_next hb0 hbB hk hQ hc
  obtain ⟨J, hJ⟩ : ∃ t, t = i + n := ⟨_, rfl⟩
  obtain ⟨K, hK⟩ : ∃ t, t = J + 1 := ⟨_, rfl⟩
  have hw1 : IntKind.i64.wrap ((i : Int) + n) = (J : Int) := by rw [← Int.natCast_add, ← hJ]; exact yD (by omega)
  have hw2 : IntKind.i64.wrap ((J : Int) + 1) = (K : Int) := by rw [zs (i := J) (by omega), hK]
  have hw3 : IntKind.u64.wrap ((k : Int) - 1) = ((k - 1 : Nat) : Int) := by rw [IntWalk.u64_in _ (by rw [qI] at hk; omega)]; omega
  obtain ⟨k', hk'⟩ : ∃ t, t = k - 1 := ⟨_, rfl⟩
  rw [← hk'] at hw3 hc'
  have htop := aC (l := l0) (off := i) (n := n) (by omega) hY
  rw [← hJ] at htop
  obtain ⟨L, hL⟩ : ∃ t, t = part l0 i (n + 1) Y := ⟨_, rfl⟩
  have hLw : Wf L := by rw [hL]; exact fQ hw _ _ _
  have hLl : L.length = N := by rw [hL, bP (by omega), hl]
  rw [← hL] at htop
  have hmore := moreM_at (H := [zH 0 L, qe]) (k := 0) (off := i) (n := n + 1) (ver := 0) (a := b) (l := L) rfl hLw (by omega) (by omega) (by omega) (by omega)
  have hseg : seg L i (n + 1) = Y := by rw [hL]; exact seg_part (by omega) hY
  have hL2 : part L i (n + 1) (Y + b) = part l0 i (n + 1) ((Y + b) % B ^ (n + 1)) := by rw [hL, part_part (by omega), aD]
  rw [hseg, hL2] at hmore
  obtain ⟨Y', hY'⟩ : ∃ t, t = (Y + b) % B ^ (n + 1) := ⟨_, rfl⟩
  rw [← hY'] at hmore hc'
  have hY'lt : Y' < B ^ (n + 1) := by rw [hY']; exact Nat.mod_lt _ (vQ _)
  have htop2 := aC (l := l0) (off := i) (n := n) (by omega) hY'lt
  rw [← hJ] at htop2
  obtain ⟨L2, hL2⟩ : ∃ t, t = part l0 i (n + 1) Y' := ⟨_, rfl⟩
  rw [← hL2] at hmore htop2
  obtain ⟨t1, ht1⟩ : ∃ t, t = Y / B ^ n := ⟨_, rfl⟩
  obtain ⟨t2, ht2⟩ : ∃ t, t = Y' / B ^ n := ⟨_, rfl⟩
  rw [← ht1] at htop hc'
  rw [← ht2] at htop2 hc'
  simp [zH] at hmore
  have hiK : i ≤ K := by omega
  have hKN : K ≤ N := by omega
  have hJN : J < N := by omega
  have hsub : ((K : Int) - i).toNat = n + 1 := by omega
  rw [← hL]
  simp [h1, h4, h8, h10, h11, h12, h13, hw1, hw2, hw3, htop, htop2, hmore, hiK, hKN, hJN, hsub, zH, Tq_more, zD]
  refine ⟨⟨k', by omega, Y', ?_⟩, by omega⟩
  by_cases h : t1 ≤ t2
  ·rw [decide_eq_true h] at hc'
   exact .inr ⟨hc', by rw [hL2], rfl, h, k0', k9'⟩
  ·rw [decide_eq_false h] at hc'
   exact .inl ⟨hc', by rw [hL2], rfl, by omega, k0', k9'⟩
theorem ir {x : List Nat} {b i n N : Nat} (hx : Wf x) (hl : x.length = N) (hn : 2 ≤ n) (hbn : len b = n) (him : i + (n + 1) ≤ N) (hr : val x < b * (B ^ i * B)) :
  ∃ h l nx d e, x[i + n]? = some h ∧ x[i + n - 1]? = some l ∧ x[i + n - 2]? = some nx ∧ (zc b)[n - 1]? = some d ∧ (zc b)[n - 2]? = some e ∧
   val x / B ^ i / B ^ (n - 2) = (h * B + l) * B + nx ∧ b / B ^ (n - 2) = d * B + e ∧ seg x i (n + 1) = val x / B ^ i := by
 have lb : (zc b).length = len b := rfl
 have hbB : b < B ^ n := by rw [← hbn]; exact vt b
 obtain ⟨h, hh⟩ : ∃ t, x[i + n]? = some t := ⟨_, List.getElem?_eq_getElem (by omega)⟩
 obtain ⟨l, hll⟩ : ∃ t, x[i + n - 1]? = some t := ⟨_, List.getElem?_eq_getElem (by omega)⟩
 obtain ⟨nx, hnx⟩ : ∃ t, x[i + n - 2]? = some t := ⟨_, List.getElem?_eq_getElem (by omega)⟩
 obtain ⟨d, hd⟩ : ∃ t, (zc b)[n - 1]? = some t := ⟨_, List.getElem?_eq_getElem (by omega)⟩
 obtain ⟨e, he⟩ : ∃ t, (zc b)[n - 2]? = some t := ⟨_, List.getElem?_eq_getElem (by omega)⟩
 refine ⟨h, l, nx, d, e, hh, hll, hnx, hd, he, ?_, ?_, ?_⟩
 ·rw [Nat.div_div_eq_div_mul, ← Nat.pow_add, show i + (n - 2) = i + n - 2 by omega, ← wP hx, vC hnx, show i + n - 2 + 1 = i + n - 1 by omega, vC hll, show i + n - 1 + 1 = i + n by omega, vC hh, wP hx]
  have hz : val x / B ^ (i + n + 1) = 0 := by
   refine Nat.div_eq_of_lt (Nat.lt_of_lt_of_le hr ?_)
   have := Nat.mul_le_mul_right (B ^ i * B) (Nat.le_of_lt hbB)
   refine Nat.le_trans this (Nat.le_of_eq ?_)
   rw [Nat.pow_succ, Nat.pow_add]
   grind
  rw [hz]
  grind
 ·have wb := zC b
  have h1 := wP wb (n - 2)
  rw [zw] at h1
  rw [← h1, vC he, show n - 2 + 1 = n - 1 by omega, vC hd, List.drop_eq_nil_of_le (by omega), qg]
  grind
 ·rw [seg_eq hx]
  refine Nat.mod_eq_of_lt ?_
  rw [Nat.div_lt_iff_lt_mul (vQ i)]
  refine Nat.lt_of_lt_of_le hr ?_
  have := Nat.mul_le_mul_right (B ^ i * B) (Nat.le_of_lt hbB)
  refine Nat.le_trans this (Nat.le_of_eq ?_)
  rw [Nat.pow_succ]
  grind
theorem iq {A b n N qn : Nat} {g9 : AVal} {R : LExit → AFr → zb → Prop} {fr : AFr} {H : zb} {x0 : List Nat} (hN : N = qn + n) (hN2 : N ≤ 1000000) (hn : 2 ≤ n) (hn2 : n ≤ 100000) (hb0 : 0 < b) (hbn : len b = n)
  (hx : x0.length = N) (hxw : Wf x0) (hxv : val x0 = A) (hA : A < b * B ^ qn) (hH : H = [zH 0 x0, zH 0 (List.replicate qn 0)])
  (h1 : fr 1 = .p (.lst ((zc b).map u64))) (h4 : fr 4 = .own 1 0 qn 0) (h8 : fr 8 = .p (.int .i64 n)) (h9 : fr 9 = g9) (h10 : fr 10 = .own 0 0 N 0) (h11 : fr 11 = .p (.int .i64 ((qn : Int) - 1)))
  (hR : ∀ (fr' : AFr) (xl ql : List Nat), xl.length = N → Wf xl → val xl = A % b → ql.length = qn → Wf ql → val ql = A / b → fr' 4 = .own 1 0 qn 0 → fr' 9 = g9 → fr' 10 = .own 0 0 N 0 → R .normal fr' [zH 0 xl, zH 0 ql]) :
  vc Tq lf137_B1 R fr H := by
 have hbB : b < B ^ n := by rw [← hbn]; exact vt b
 have lb : (zc b).length = len b := rfl
 simp only [lf137_B1, zr]
 refine zo (fun fr H => ∃ (c : Nat) (xl ql : List Nat), c ≤ qn ∧ xl.length = N ∧ Wf xl ∧ ql.length = qn ∧ Wf ql ∧ val xl < b * B ^ c ∧ A = val xl + b * B ^ c * val (ql.drop c) ∧ H = [zH 0 xl, zH 0 ql] ∧
   fr 1 = .p (.lst ((zc b).map u64)) ∧ fr 4 = .own 1 0 qn 0 ∧ fr 8 = .p (.int .i64 n) ∧ fr 9 = g9 ∧ fr 10 = .own 0 0 N 0 ∧ fr 11 = .p (.int .i64 ((c : Int) - 1)))
  (fun fr _ => s9 (fr 11)) ⟨qn, x0, List.replicate qn 0, by omega, hx, hxw, by simp, Wf.zeros _, by rw [hxv]; exact hA, by rw [List.drop_eq_nil_of_le (by simp), qg, hxv]; simp, hH, h1, h4, h8, h9, h10, h11⟩ ?_
 rintro fr H ⟨c, xl, ql, hc, hxl, hxw, hql, hqw, hlt, hA, rfl, h1, h4, h8, h9, h10, h11⟩
 by_cases hc0 : 0 < c
 ·obtain ⟨i, rfl⟩ : ∃ m, c = m + 1 := ⟨c - 1, by omega⟩
  have e11 : (((i + 1 : Nat) : Int) - 1) = (i : Int) := by omega
  rw [e11] at h11
  rw [Nat.pow_succ] at hlt hA
  have him : i + (n + 1) ≤ N := by omega
  obtain ⟨hh, ll, nx, d, e, g1, g2, g3, g4, g5, hX, hbb, hseg⟩ := ir hxw hxl hn hbn him hlt
  obtain ⟨X, hXd⟩ : ∃ t, t = val xl / B ^ i := ⟨_, rfl⟩
  rw [← hXd] at hX hseg
  obtain ⟨Q, hQ⟩ : ∃ t, t = X / b := ⟨_, rfl⟩
  have hQB : Q < B := by rw [hQ, hXd]; exact long_lt hlt hb0 (vQ i)
  have hnxB := hxw.get g3
  have hguess := guess_quot (X := X) (b := b) (n := n - 2) hb0 (by rw [← hQ]; exact hQB) hX hbb hnxB
  have hG := lO (hxw.get g1) (hxw.get g2) hnxB ((zC b).get g4) ((zC b).get g5)
  obtain ⟨k, hk⟩ : ∃ t, t = kO hh ll nx d e := ⟨_, rfl⟩
  have hkB : k < B := by rw [hk]; exact guessN_lt (hxw.get g2)
  rw [← hk] at hguess hG
  rw [← hQ] at hguess
  have hcorr := corr_first hb0 hbB hkB hQ hguess
  have hless := lessM_at (H := [zH 0 xl, zH 0 ql]) (k := 0) (off := i) (n := n + 1) (ver := 0) (z := k) (a := b) (l := xl) rfl hxw (by omega) (by omega) (by omega) hkB (by omega)
  rw [hseg, aD] at hless
  obtain ⟨Y0, hY0⟩ : ∃ t, t = (X + B ^ (n + 1) - b * k) % B ^ (n + 1) := ⟨_, rfl⟩
  obtain ⟨o0, ho0⟩ : ∃ t, t = decide (X < b * k) := ⟨_, rfl⟩
  rw [← hY0, ← ho0] at hcorr hless
  obtain ⟨L, hL⟩ : ∃ t, t = part xl i (n + 1) Y0 := ⟨_, rfl⟩
  rw [← hL] at hless
  simp [zH] at hless
  obtain ⟨J, hJ⟩ : ∃ t, t = i + n := ⟨_, rfl⟩
  obtain ⟨K, hK⟩ : ∃ t, t = J + 1 := ⟨_, rfl⟩
  have w1 : IntKind.i64.wrap ((i : Int) + n) = (J : Int) := by rw [← Int.natCast_add, ← hJ]; exact yD (by omega)
  have w2 : IntKind.i64.wrap ((J : Int) + 1) = (K : Int) := by rw [zs (i := J) (by omega), hK]
  obtain ⟨J1, hJ1⟩ : ∃ t, t = J - 1 := ⟨_, rfl⟩
  obtain ⟨J2, hJ2⟩ : ∃ t, t = J - 2 := ⟨_, rfl⟩
  obtain ⟨n1, hn1⟩ : ∃ t, t = n - 1 := ⟨_, rfl⟩
  obtain ⟨n2, hn2⟩ : ∃ t, t = n - 2 := ⟨_, rfl⟩
  have w3 : IntKind.i64.wrap ((J : Int) - 1) = (J1 : Int) := by rw [IntWalk.i64_in _ (by omega)]; omega
  have w4 : IntKind.i64.wrap ((J : Int) - 2) = (J2 : Int) := by rw [IntWalk.i64_in _ (by omega)]; omega
  have w5 : IntKind.i64.wrap ((n : Int) - 1) = (n1 : Int) := by rw [IntWalk.i64_in _ (by omega)]; omega
  have w6 : IntKind.i64.wrap ((n : Int) - 2) = (n2 : Int) := by rw [IntWalk.i64_in _ (by omega)]; omega
  have w7 : IntKind.i64.wrap ((i : Int) - 1) = (i : Int) - 1 := IntWalk.i64_in _ (by omega)
  rw [← hJ] at g1 g2 g3
  rw [← hJ1] at g2
  rw [← hJ2] at g3
  rw [← hn1] at g4
  rw [← hn2] at g5
  have b1 : J < N := by omega
  have b2 : J1 < N := by omega
  have b3 : J2 < N := by omega
  have b4 : i ≤ K := by omega
  have b5 : K ≤ N := by omega
  have b6 : i < qn := by omega
  have hsub : ((K : Int) - i).toNat = n + 1 := by omega
  obtain ⟨o, ho⟩ : ∃ t, ql[i]? = some t := ⟨_, List.getElem?_eq_getElem (by omega)⟩
  simp [h1, h8, h10, h11, w1, w2, w3, w4, w5, w6, g1, g2, g3, g4, g5, b1, b2, b3, b4, b5, hsub, hG, hless, zH, i8, Tq_less, Tq_guess]
  refine corr_loop (b := b) (n := n) (i := i) (N := N) (X := X) (Q := Q) (k0 := k) (Y0 := Y0) (o0 := o0) (l0 := xl) (qe := zH 0 ql) (g4 := .own 1 0 qn 0) hxw hxl hN2 him hb0 hbn (by omega) hQ hkB hcorr (by rw [← hL]; rfl) (by simp [h1]) (by simp [h4]) (by simp [h8]) (by simp [h10]) (by simp [h11]) (by simp) (by simp) ?_
  intro fr' f1 f4 f8 f10 f11 f12 fk
  have f9 := fk 9 (.inr rfl)
  simp [h9] at f9
  simp [f1, f4, f8, f9, f10, f11, f12, b6, ho, w7, zH, s9]
  have hst := long_step (A := A) (R := val xl) (b := b) (P := B ^ i) (q := val (ql.drop (i + 1))) hb0 (vQ i) hA
  rw [← hXd, ← hQ] at hst
  have hpv : val (part xl i (n + 1) (X % b)) = X % b * B ^ i + val xl % B ^ i := by
   have h2 := aB (l := xl) (off := i) (n := n + 1) (v := X % b) (by omega) (Nat.lt_trans (Nat.mod_lt _ hb0) (Nat.lt_of_lt_of_le hbB (jZ (by omega))))
   have h3 := Nat.div_add_mod (val xl) (B ^ i)
   rw [← hXd] at h3
   rw [hseg] at h2
   rw [Nat.mul_comm (X % b)]
   omega
  refine ⟨i, by omega, part xl i (n + 1) (X % b), by rw [bP (by omega), hxl], fQ hxw _ _ _, ql.set i Q, by simp [hql], hqw.set _ hQB, ?_, ?_, ⟨rfl, by rw [List.map_set]; rfl⟩, rfl⟩
  ·rw [hpv]; exact hst.2
  ·rw [hpv, dr (by omega), q9]; exact hst.1
 ·have : c = 0 := by omega
  subst this
  simp [h11]
  rw [List.drop_zero, Nat.pow_zero, Nat.mul_one] at hA
  rw [Nat.pow_zero, Nat.mul_one] at hlt
  obtain ⟨hq, hr⟩ := hZ (a := A) (k := b) (q := val ql) (r := val xl) (by omega) hlt
  exact hR _ xl ql hxl hxw hr hql hqw hq (by simp [h4]) (by simp [h9]) (by simp [h10])
def gB : List PVal → Option PVal
 | [.lst xs, .lst ys] => match vM xs, vM ys with | some a, some b => if b = 0 then none else some (.tup [wD (a / b), wD (a % b)]) | _, _ => none
 | _ => none
theorem mI {a b : Nat} (ha : len a ≤ 100000) (hb : len b ≤ 100000) (h0 : b ≠ 0) : gB [.lst ((zc a).map u64), .lst ((zc b).map u64)] = some (.tup [.lst ((zc (a / b)).map u64), .lst ((zc (a % b)).map u64)]) := by
 simp only [gB, zM ha, zM hb, if_neg h0]; rfl
theorem norm_len {b x n : Nat} (hn : len b = n) (hx : (zc b)[n - 1]? = some x) (hn1 : 1 ≤ n) : x ≠ 0 ∧ x < B ∧ len (b * 2 ^ (64 - size x)) = n ∧ 64 - size x ≤ 63 := by
 have lb : (zc b).length = len b := rfl
 have hxB := (zC b).get hx
 have hx0 : x ≠ 0 := by
  have := (cg b).2
  rw [List.getLast?_eq_getElem?, lb, hn, hx] at this
  exact fun e => this (by rw [e])
 have hsz := fu hxB
 have hsp := um hx0
 have hb : size b = 64 * (n - 1) + size x := by
  have h1 := rH ((zC b).take (n - 1)) hx0
  rw [← gg hx, show n - 1 + 1 = n by omega, List.take_of_length_le (by omega), zw, List.length_take, Nat.min_eq_left (by omega)] at h1
  exact h1
 refine ⟨hx0, hxB, ?_, by omega⟩
 have hbn : b ≠ 0 := fun e => by rw [e, gR] at hn; omega
 have h1 : size (b * 2 ^ (64 - size x)) = 64 * n := by rw [lC hbn, hb]; omega
 have h2 : b * 2 ^ (64 - size x) < B ^ n := by rw [bw, ← wQ]; omega
 have h3 : ¬ b * 2 ^ (64 - size x) < B ^ (n - 1) := by rw [bw, ← wQ]; omega
 have h4 := dP h2
 have h5 : n - 1 < len (b * 2 ^ (64 - size x)) := dL.2 (by omega)
 omega
theorem fO : zG Tryz.prog base 137 (za gB) := by
 refine zd zB Tq_ok ze low137 fun args z hs hf => ?_
 unfold gB at hs
 split at hs
 case h_2 => cases hs
 rename_i xs ys
 split at hs
 case h_2 => cases hs
 rename_i a b ha hb
 split at hs
 case isTrue => cases hs
 rename_i hb0
 cases hs
 obtain ⟨rfl, hla⟩ := zE ha
 obtain ⟨rfl, hlb⟩ := zE hb
 refine ⟨by simp [lf137], ?_⟩
 have la : (zc a).length = len a := rfl
 have lb : (zc b).length = len b := rfl
 have hO := jm hla hlb
 have hlb0 : len b ≠ 0 := fun e => hb0 (qd.1 e)
 by_cases hab : a < b
 ·have hc : qm a b = -1 := jY hab
  rw [hc] at hO
  have ht := vg (zC a) (by omega)
  rw [zw] at ht
  have hcl := ko hla
  simp [lf137, hO, ht, hcl, i8, tE, o3, Tq_clone, Nat.div_eq_of_lt hab, Nat.mod_eq_of_lt hab, wD, jb, zy]
 ·have hc : ¬ qm a b < 0 := by
   unfold qm; split
   ·omega
   ·split <;> omega
  by_cases h1 : len b = 1
  ·have hbB : b < B := by have := vt b; rw [h1, Nat.pow_one] at this; exact this
   have hlim := kG hb0 hbB
   have hby := eX hla (Nat.pos_of_ne_zero hb0) hbB
   have hr : a % b < B := Nat.lt_trans (Nat.mod_lt _ (Nat.pos_of_ne_zero hb0)) hbB
   have ht := vg (l := [a % b]) (Wf.cons hr Wf.nil) (by simp)
   obtain ⟨r, hrr⟩ : ∃ t, t = a % b := ⟨_, rfl⟩
   rw [← hrr] at hby ht ⊢
   simp [val] at ht
   rw [hlim] at hO ⊢
   simp only [List.map_cons, List.map_nil, u64] at hO
   simp [lf137, hO, hc, hby, ht, zN, i8, tE, o3, Tq_by, wD, jb]
  ·have hb1 : ((len b : Int) == 1) = false := beq_false_of_ne (by omega)
   obtain ⟨n, hn⟩ : ∃ t, t = len b := ⟨_, rfl⟩
   rw [← hn] at hb1 h1 hlb0 lb hlb
   have hn2 : 2 ≤ n := by omega
   have hba : b ≤ a := by omega
   have hla2 : n ≤ len a := by rw [hn]; exact qq hba
   obtain ⟨x, hx⟩ : ∃ t, (zc b)[n - 1]? = some t := ⟨_, List.getElem?_eq_getElem (by omega)⟩
   obtain ⟨hx0, hxB, hlb', hby63⟩ := norm_len hn.symm hx (by omega)
   have hlead := xj hxB
   obtain ⟨s, hs⟩ : ∃ t, t = 64 - size x := ⟨_, rfl⟩
   rw [← hs] at hlb' hby63 hlead
   obtain ⟨b', hb'⟩ : ∃ t, t = b * 2 ^ s := ⟨_, rfl⟩
   obtain ⟨A, hA⟩ : ∃ t, t = a * 2 ^ s := ⟨_, rfl⟩
   rw [← hb'] at hlb'
   have hLb := xh (a := b) (n := s) (by omega) (by omega)
   have hLa := xh (a := a) (n := s) (by omega) (by omega)
   rw [← hb'] at hLb
   rw [← hA] at hLa
   obtain ⟨N, hN⟩ : ∃ t, t = len a + 1 := ⟨_, rfl⟩
   have hAN : A < B ^ N := by
    rw [hA, hN, Nat.pow_succ]
    refine Nat.mul_lt_mul'' (vt a) ?_
    rw [← bO]
    exact Nat.pow_lt_pow_right (by omega) (by omega)
   have hlA : len A ≤ N := dP hAN
   have llA : (zc A).length = len A := rfl
   obtain ⟨m1, hm1⟩ : ∃ t, t = len a - n := ⟨_, rfl⟩
   obtain ⟨qn, hqn⟩ : ∃ t, t = m1 + 1 := ⟨_, rfl⟩
   obtain ⟨n1, hn1⟩ : ∃ t, t = n - 1 := ⟨_, rfl⟩
   rw [← hn1] at hx
   have w1 : IntKind.i64.wrap ((n : Int) - 1) = (n1 : Int) := by rw [IntWalk.i64_in _ (by omega)]; omega
   have w2 : IntKind.i64.wrap ((len a : Int) + 1) = (N : Int) := by rw [zs (i := len a) (by omega), hN]
   have w3 : IntKind.i64.wrap ((len a : Int) - n) = (m1 : Int) := by rw [IntWalk.i64_in _ (by omega)]; omega
   have w4 : IntKind.i64.wrap ((m1 : Int) + 1) = (qn : Int) := by rw [zs (i := m1) (by omega), hqn]
   have w5 : IntKind.i64.wrap ((qn : Int) - 1) = (qn : Int) - 1 := IntWalk.i64_in _ (by omega)
   have c1 := wI N (by omega)
   have c2 := wI qn (by omega)
   have hN0 : 0 < N := by omega
   have hmin : min (len A) N = len A := Nat.min_eq_left hlA
   have htk : List.take N (List.map au (zc A)) = List.map au (zc A) := List.take_of_length_le (by simp [llA]; exact hlA)
   have hb'0 : 0 < b' := by
    rw [hb']
    exact Nat.mul_pos (Nat.pos_of_ne_zero hb0) (Nat.two_pow_pos s)
   have hAb : A < b' * B ^ qn := by
    have h2 := len_ge hb0
    rw [← hn] at h2
    have h3 : B ^ len a ≤ b * B ^ qn := by
     refine Nat.le_trans (Nat.le_of_eq ?_) (Nat.mul_le_mul_right _ h2)
     rw [← Nat.pow_add]
     congr 1
     omega
    rw [hA, hb', Nat.mul_right_comm]
    exact Nat.mul_lt_mul_of_pos_right (Nat.lt_of_lt_of_le (vt a) h3) (Nat.two_pow_pos s)
   simp [lf137, la, lb, hO, hc, hb1, hx, hlead, hLb, hLa, w1, w2, w3, w4, w5, c1, c2, hN0, hmin, htk, llA, comp_au, i8, tE, Tq_lead, Tq_left]
   refine iq (A := A) (b := b') (n := n) (N := N) (qn := qn) (g9 := .p (.int .i64 s)) (x0 := fix N A) (by omega) (by omega) hn2 (by omega) hb'0 hlb' (qz _ _) (yE _ _) (yG hAN) hAb (by rw [fix_eq hlA]; simp [zH])
    (by simp) (by simp) (by simp) (by simp) (by simp) (by simp) ?_
   intro fr' xl ql hxl hxw hxv hql hqw hqv f4 f9 f10
   obtain ⟨T1, t1⟩ := jS hql hqw (by omega) hqv
   obtain ⟨T2, t2⟩ := jS hxl hxw (by omega) hxv
   have hq : A / b' = a / b := by rw [hA, hb', shift_div]
   have hrr : A % b' / 2 ^ s = a % b := by rw [hA, hb', shift_mod]
   have hlr : len (A % b') ≤ 100000 := Nat.le_trans (qq (Nat.le_of_lt (Nat.mod_lt _ hb'0))) (by omega)
   have hR := lK (a := A % b') (n := s) hlr (by omega)
   rw [hrr] at hR
   rw [hq] at t1
   simp only [wD, jb] at t1 t2
   simp [f4, f9, f10, zH, hql, hxl, T1, T2, t1, t2, hR, zO, zQ, i8, o3, Tq_right, freeze1, wD, jb]
def Tcm : Tab := (Tab.none.with 137 (za gB)).with 117 (za vr)
theorem Tcm_ok : TabOk Tryz.prog base Tcm := Tab.with_ok (Tab.with_ok Tab.none_ok fO) yv
theorem Tcm_mu (f : FuncId) (a : List AVal) (H : zb) : Tcm.mu f a H = none := (rfl)
theorem Tcm_quot : Tcm.fn 137 = za gB := (rfl)
theorem Tcm_clone : Tcm.fn 117 = za vr := (rfl)
def kY : List PVal → Option PVal
 | [.lst xs, .lst ys] => match vM xs, vM ys with | some a, some b => some (wD (Nat.gcd a b)) | _, _ => none
 | _ => none
theorem nL {a b : Nat} (ha : len a ≤ 100000) (hb : len b ≤ 100000) : kY [.lst ((zc a).map u64), .lst ((zc b).map u64)] = some (.lst ((zc (Nat.gcd a b)).map u64)) := by
 simp only [kY, zM ha, zM hb]; rfl
theorem nl : zG Tryz.prog base 107 (za kY) := by
 refine zd zB Tcm_ok ze low107 fun args z hs hf => ?_
 unfold kY at hs
 split at hs
 case h_2 => cases hs
 rename_i xs ys
 split at hs
 case h_2 => cases hs
 rename_i a b ha hb
 cases hs
 obtain ⟨rfl, hla⟩ := zE ha
 obtain ⟨rfl, hlb⟩ := zE hb
 refine ⟨by simp [lf107], ?_⟩
 obtain ⟨G, hG⟩ : ∃ t, t = Nat.gcd a b := ⟨_, rfl⟩
 rw [← hG]
 simp [lf107]
 simp only [lf107_B0, zr]
 refine zo (fun fr H => ∃ m n : Nat, len m ≤ 100000 ∧ len n ≤ 100000 ∧ Nat.gcd m n = G ∧ H = [] ∧ fr 0 = .p (.lst ((zc m).map u64)) ∧ fr 1 = .p (.lst ((zc n).map u64)))
  (fun fr _ => match fr 1 with | .p (.lst es) => (match vM es with | some n => n | none => 0) | _ => 0) ⟨a, b, hla, hlb, hG.symm, rfl, by simp, by simp⟩ ?_
 rintro fr H ⟨m, n, hm, hn, hg, rfl, h0, h1⟩
 have ln : (zc n).length = len n := rfl
 by_cases hz : n = 0
 ·subst hz
  rw [Nat.gcd_zero_right] at hg
  subst hg
  have hcl := ko hm
  simp [h0, h1, zy, hcl, Tcm_mu, Tcm_clone, wD, jb]
 ·have hln : len n ≠ 0 := fun e => hz (qd.1 e)
  have hlI : (0 : Int) < len n := by omega
  have hlN : 0 < len n := by omega
  have hq := mI hm hn hz
  have hr : len (m % n) ≤ 100000 := Nat.le_trans (qq (Nat.le_of_lt (Nat.mod_lt _ (Nat.pos_of_ne_zero hz)))) hn
  have hd1 := zM hn
  have hd2 := zM hr
  obtain ⟨r, hrr⟩ : ∃ t, t = m % n := ⟨_, rfl⟩
  rw [← hrr] at hq hr hd2
  simp [h0, h1, ln, hlN, hq, hd1, hd2, Tcm_mu, Tcm_quot]
  refine ⟨⟨n, hn, r, hr, ?_, rfl, rfl⟩, by rw [hrr]; exact Nat.mod_lt _ (Nat.pos_of_ne_zero hz)⟩
  rw [hrr, Nat.gcd_comm, ← Nat.gcd_rec, Nat.gcd_comm]
  exact hg
def okL (l : List Nat) : Bool := decide (l.length ≤ 64) && decide (zc (val l) = l)
theorem uB {l : List Nat} (h : okL l = true) : ∃ a, l = zc a ∧ len a ≤ 64 := by
 unfold okL at h
 simp only [Bool.and_eq_true, decide_eq_true_eq] at h
 exact ⟨val l, h.2.symm, by unfold len; rw [h.2]; exact h.1⟩
theorem okL_num (a : Nat) : okL (zc a) = decide (len a ≤ 64) := by
 unfold okL
 rw [zw, decide_eq_true (rfl : zc a = zc a), Bool.and_true]
 rfl
theorem jz {l : List Nat} (h : Wf l) : jl [.lst (l.map u64)] = some (.bool (okL l)) := by
 simp only [jl, zX h]; rfl
def Tnat : Tab := ((((((((((Tab.none.with 139 (za qF)).with 105 (za jl)).with 106 (za qX)).with 141 (za bH)).with 142 (za kn)).with 109 (za wB)).with 137 (za gB)).with 107 (za kY)).with 153 (za rZ)).with 157 (za dB)).with 100 (za uu)
theorem Tnat_ok : TabOk Tryz.prog base Tnat := Tab.with_ok (Tab.with_ok (Tab.with_ok (Tab.with_ok (Tab.with_ok (Tab.with_ok (Tab.with_ok (Tab.with_ok (Tab.with_ok (Tab.with_ok (Tab.with_ok Tab.none_ok cx) rn) bQ) plus_ok) aQ) rq) fO) nl) left_ok) am) gU
def xd : List PVal → Option PVal
 | [.lst xs] => match vM xs with | some a => some (.int .i64 (size a)) | none => none
 | _ => none
theorem xc {a : Nat} (ha : len a ≤ 100000) : xd [.lst ((zc a).map u64)] = some (.int .i64 (size a)) := by
 simp only [xd, zM ha]
theorem size_top {a x : Nat} (h : a ≠ 0) (hx : (zc a)[len a - 1]? = some x) : size a = 64 * (len a - 1) + size x := by
 have hl : 1 ≤ len a := by have : len a ≠ 0 := fun e => h (qd.1 e); omega
 have la : (zc a).length = len a := rfl
 have hx0 : x ≠ 0 := by
  have := (cg a).2
  rw [List.getLast?_eq_getElem?, la, hx] at this
  exact fun e => this (by rw [e])
 have h1 := rH ((zC a).take (len a - 1)) hx0
 rw [← gg hx, show len a - 1 + 1 = len a by omega, List.take_of_length_le (by omega), zw, List.length_take, Nat.min_eq_left (by omega)] at h1
 exact h1
def ofL (n : Int) : List Nat := if n ≤ 0 then [] else [(IntKind.u64.wrap n).toNat]
def sOf : List PVal → Option PVal
 | [.int .i64 n] => some (jb (ofL n))
 | _ => none
theorem er (n : Int) : ((IntKind.u64.wrap n).toNat : Int) = IntKind.u64.wrap n := by
 rw [IntKind.wrap_u64]; omega
theorem of_ok : zG Tryz.prog base 113 (za sOf) := by
 refine zd zB Tnat_ok ze low113 fun args z hs hf => ?_
 unfold sOf at hs
 split at hs
 case h_2 => cases hs
 rename_i n
 cases hs
 refine ⟨by simp [lf113], ?_⟩
 have hw := er n
 by_cases h : n ≤ 0
 ·simp [lf113, h, ofL, jb]
 ·simp [-Int.ofNat_toNat, lf113, h, hw, ofL, jb, zN]
end Go.Proofs.YtgbjjikaenlkmaaGreat

namespace Go.Proofs.YtgbjjikaenlkmaaGreat
open Go Go.Abs Go.Limbs
theorem mW {a : Nat} (h : len a ≤ 64) : okL (zc a) = true := by rw [okL_num]; exact decide_eq_true h
end Go.Proofs.YtgbjjikaenlkmaaGreat

namespace Go.Proofs.YtgbjjikaenlkmaaGreat
open Go Go.Abs
def lf62_B0 : LCode := .block 0 (.loop (.seq (.seq (.region [Om 11 5,Om 12 0,Oa 13 (.len (Tm 12)),Oa 14 (.bin .lss (Tm 11) (Tm 13))]) (.cond (Tm 14) (.skip) (.exit 0))) (.seq (.block 1 (.seq (.regionD [Om 17 0,Om 18 5,Oa 19 (.iadr 1 (Tm 17) (Tm 18)),Oq 20 1 false 19,Om 21 1,Om 22 5,Oa 23 (.iadr 1 (Tm 21) (Tm 22)),Oq 24 1 false 23,Oa 25 (.bin .neq (Tm 20) (Tm 24))]) (.cond (Tm 25) (.seq (.region [Oa 4 (.mov Kg)]) (.ret)) (.skip)))) (.region [Om 15 5,Oa 16 (.bin .add (Tm 15) (Kz 1)),Om 5 16]))))
def lf62 : LFunc := ⟨26,[.slot 4],.seq (.region [Oa 4 (.mov Kg)]) (.seq (.seq (.region [Om 6 0,Oa 7 (.len (Tm 6)),Om 8 1,Oa 9 (.len (Tm 8)),Oa 10 (.bin .neq (Tm 7) (Tm 9))]) (.cond (Tm 10) (.seq (.region [Oa 4 (.mov Kg)]) (.ret)) (.skip))) (.seq (.seq (.region [Oa 5 (.mov (Kz 0))]) (lf62_B0)) (.seq (.region [Oa 4 (.mov Kt)]) (.ret))))⟩
theorem low62 : zf Tryz.prog gl0 62 = some lf62 := Go.Abs.lowF (by kernel_rfl)
end Go.Proofs.YtgbjjikaenlkmaaGreat

namespace Go.Proofs
open Go.Shelf
end Go.Proofs

namespace Go.Proofs.YtgbjjikaenlkmaaGreat
open Go Go.Abs Go.Limbs
variable {base : Prot}
set_option maxRecDepth 20000
section
attribute [local irreducible] vc
attribute [local simp] za zi freezeL fuel zk u64
end
end Go.Proofs.YtgbjjikaenlkmaaGreat

namespace Go.Proofs.YtgbjjikaenlkmaaGreat
open Go Go.Shelf Go.RowKit Go.Sort Go.Lib Go.Abs
section
set_option maxRecDepth 20000
attribute [local irreducible] vc
attribute [local simp] za zi freezeL fuel zk u64
end
end Go.Proofs.YtgbjjikaenlkmaaGreat

namespace Go.Proofs.YtgbjjikaenlkmaaGreat
open Go Go.Abs Go.RowKit Go.Shelf
attribute [local go_sem] Oper.semAt_some
def upto {α : Type} (f : Nat → α) (k : Nat) : List α := (List.range k).map f
theorem t5 {α : Type} (f : Nat → α) (k : Nat) : upto f (k + 1) = upto f k ++ [f k] := by simp [upto, List.range_succ]
theorem nE {α : Type} (f : Nat → α) (k : Nat) : (upto f k).length = k := by simp [upto]
end Go.Proofs.YtgbjjikaenlkmaaGreat
