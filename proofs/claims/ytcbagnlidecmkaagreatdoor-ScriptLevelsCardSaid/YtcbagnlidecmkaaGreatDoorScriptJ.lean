/-
  ScriptLevels answers true on all values. No conditions.
-/
import Derived.Test.YtcbagnlidecmkaaGreatDoorScriptG
import Derived.Test.YtcbagnlidecmkaaGreatDoorScriptP
import Derived.Test.YtcbagnlidecmkaaGreatDoorScriptE
import Derived.Test.YtcbagnlidecmkaaGreatDoorNatD
import Derived.Test.YtcbagnlidecmkaaGreatDoorScriptL
set_option linter.unusedSimpArgs false
set_option linter.unnecessarySimpa false
set_option linter.unusedVariables false
set_option linter.constructorNameAsVariable false

/-
 law13: ScriptLevels.
-/
namespace Go.Proofs.YtcbagnlidecmkaaGreatDoor
open Go Go.Abs Go.Lex Go.Sexp
set_option maxRecDepth 20000
attribute [local irreducible] vc
attribute [local simp] pureS touchV freezeL fuel shiftV
variable {base : Prot} {m : Int}
def inI64 (z : Int) : Prop := -9223372036854775808 ≤ z ∧ z < 9223372036854775808
instance (z : Int) : Decidable (inI64 z) := inferInstanceAs (Decidable (_ ∧ _))
noncomputable def Tlv : Tab := (((Tab.none.with 12 (pureS sOne)).with 8 (pureS sAwake)).with 19 (pureS Nn.sIOf)).with 18 (pureS Nn.sIText)
theorem Tlv_ok : TabOk Tryz.prog (base3 m) Tlv := Tab.with_ok (Tab.with_ok (Tab.with_ok (Tab.with_ok Tab.none_ok one_ok) awake13_ok) Nn.riof_ok) Nn.rtexti_ok
theorem Tlv_mu (f : FuncId) (a : List AVal) (H : Heap) : Tlv.mu f a H = none := (rfl)
theorem Tlv_1 : Tlv.fn 12 = pureS sOne := (rfl)
theorem Tlv_2 : Tlv.fn 8 = pureS sAwake := (rfl)
theorem Tlv_3 : Tlv.fn 19 = pureS Nn.sIOf := (rfl)
theorem Tlv_4 : Tlv.fn 18 = pureS Nn.sIText := (rfl)
attribute [local simp] Tlv_mu Tlv_1 Tlv_2 Tlv_3 Tlv_4
theorem bad_keys {s : List UInt8} {t : Tr Wd} {u : Tr Lex.Key} (h : treesO (wordsT s) = [t]) (hu : t.map key = u) (hc : parseK u = none) : badO s = true := by
 unfold badO
 rw [h]
 exact Option.isNone_iff_eq_none.2 (none_keys hu hc)
theorem good_keys {s : List UInt8} {t : Tr Wd} {u : Tr Lex.Key} (h : treesO (wordsT s) = [t]) (hu : t.map key = u) {c : Cmd Lex.Key} (hc : parseK u = some c) : ∃ c' : Cmd Wd, oneO s = some c' ∧ c'.map key = c := by
 obtain ⟨c', h1, h2⟩ := one_keys h hu hc
 refine ⟨c', ?_, h2⟩
 unfold oneO
 rw [h]; exact h1
def levC (k n : Nat) (c : Cmd Wd) : Prop := c.kind = k ∧ c.n = n
def intT (z : Int) : List UInt8 := if z < 0 then 45 :: Lib.decDigits z.natAbs else Lib.decDigits z.natAbs
theorem dec_short {n : Nat} (h : n < 10 ^ 40) : (Lib.decDigits n).length ≤ 40 := by
 have key : ∀ k n : Nat, n < 10 ^ (k + 1) → (Lib.decDigits n).length ≤ k + 1 := fun k => by
  induction k with
  | zero => intro n h; rw [Lib.decDigits, dif_pos (by omega)]; simp
  | succ k ih =>
   intro n h
   rw [Lib.decDigits]
   split
   ·simp
   ·rw [List.length_append]
    have := ih (n / 10) (by rw [Nat.pow_succ] at h; omega)
    simp; omega
 exact key 39 n h
theorem lev_text {k : Nat} (hk : k = 8 ∨ k = 9) {z : Int} (hz : inI64 z) :
  (levT k (intT z)).length ≤ 1100 ∧ ((z < 0 ∨ 1000 < z) → badO (levT k (intT z)) = true) ∧ (0 ≤ z → z ≤ 1000 → ∃ c, oneO (levT k (intT z)) = some c ∧ levC k z.toNat c) := by
 have hsh : (Lib.decDigits z.natAbs).length ≤ 40 := dec_short (by unfold inI64 at hz; omega)
 by_cases h0 : z < 0
 ·have e : intT z = wrW 3 (45 :: Lib.decDigits z.natAbs) := by unfold intT; rw [if_pos h0, (rd_neg _).2]
  have hl : (wrW 3 (45 :: Lib.decDigits z.natAbs)).length ≤ 1000 := by rw [(rd_neg _).2, List.length_cons]; omega
  obtain ⟨a1, t, a2, a3⟩ := lev_read hk (w := (3, 45 :: Lib.decDigits z.natAbs)) (rd_neg _).1 hl
  rw [e]
  exact ⟨a1, fun _ => bad_keys a2 a3 (lev_bad hk (.inl (show (3 : Int) ≠ 5 by decide))), fun h => absurd h (by omega)⟩
 ·have e : intT z = Lib.decDigits z.natAbs := by unfold intT; rw [if_neg h0]
  have ew : ∀ s, wrW 5 s = s := fun s => rfl
  by_cases h1 : z ≤ 1000
  ·have e2 : intT z = wrW 5 (itoaK z.toNat) := by
    rw [e, ew, show z.natAbs = z.toNat by omega, dig_itoa (by omega)]
   have hl : (wrW 5 (itoaK z.toNat)).length ≤ 1000 := by rw [← e2, e]; omega
   obtain ⟨a1, t, a2, a3⟩ := lev_read hk (w := (5, itoaK z.toNat)) (rd_itoa (by omega)) hl
   rw [e2]
   obtain ⟨c, c1, c2⟩ := good_keys a2 a3 (lev_num hk (by omega))
   exact ⟨a1, fun h => absurd h (by omega), fun _ _ => ⟨c, c1, congrArg Cmd.kind c2, congrArg Cmd.n c2⟩⟩
  ·have e2 : intT z = wrW 5 (Lib.decDigits z.natAbs) := by rw [e, ew]
   have hl : (wrW 5 (Lib.decDigits z.natAbs)).length ≤ 1000 := by rw [ew]; omega
   obtain ⟨a1, t, a2, a3⟩ := lev_read hk (w := (5, Lib.decDigits z.natAbs)) (rd_dec (by omega)) hl
   rw [e2]
   exact ⟨a1, fun _ => bad_keys a2 a3 (lev_bad hk (.inr (num_big (by omega)))), fun _ h => absurd h h1⟩
theorem lev_noneT {k : Nat} (hk : k = 8 ∨ k = 9) : ∃ c, oneO (40 :: (nameK k ++ [41])) = some c ∧ levC k 1 c := by
 obtain ⟨t, a2, a3⟩ := lev_none hk
 obtain ⟨c, c1, c2⟩ := good_keys a2 a3 (lev_one hk)
 exact ⟨c, c1, congrArg Cmd.kind c2, congrArg Cmd.n c2⟩
def sLevels : List PVal → Option PVal
 | [.int .i64 n, .bool _, .bool _] => if inI64 n then some (.bool true) else none
 | _ => none
theorem levels13_ok : FnOk Tryz.prog (base3 m) 7 (pureS sLevels) := by
 refine pure_of_vc hmix Tlv_ok globNone low7 fun args x hs hf => ?_
 unfold sLevels at hs
 split at hs
 case h_2 => cases hs
 rename_i z pop none_
 split at hs
 case isFalse => cases hs
 rename_i hz
 cases hs
 refine ⟨by simp [lf7], ?_⟩
 have aw : sAwake [] = some (.bool true) := rfl
 obtain ⟨t1, t2⟩ := Nn.text_int hz.1 hz.2
 have hsh : (Lib.decDigits z.natAbs).length ≤ 40 := dec_short (by unfold inI64 at hz; omega)
 have hil : (intT z).length ≤ 41 := by
  unfold intT
  split
  ·rw [List.length_cons]; omega
  ·omega
 obtain ⟨ns, nx, ne⟩ := Nn.iN_agg z
 rw [ne] at t1 t2
 have t2 : Nn.sIText [.agg [.bool ns, .lst nx]] = some (.str (intT z)) := t2
 obtain ⟨p1, p2, p3⟩ := lev_text (k := 8) (.inl rfl) hz
 obtain ⟨q1, q2, q3⟩ := lev_text (k := 9) (.inr rfl) hz
 have hn8 : nameK 8 = [112, 117, 115, 104] := rfl
 have hn9 : nameK 9 = [112, 111, 112] := rfl
 have hD : ∀ k, 9000000000000000000 ≤ k → ((intT z).length ≤ k) = True := fun k hk => by simp; omega
 have fin : ∀ (k n : Nat) (s : List UInt8) (c : Cmd Wd), s.length ≤ 8000 → oneO s = some c → levC k n c → ∃ nm pr re tb tk ts ta tvs tms, sOne [.str s] = some (.tup [.agg [.int .i64 k, .str nm, .lst pr, .str re, .bool tb, .int .i64 tk, .str ts, .int .i64 ta, .lst tvs, .lst tms, .int .i64 n], .int .i64 0]) := fun k n s c hl h1 h2 => by
  obtain ⟨ho, _⟩ := one_good hl h1
  obtain ⟨tb, tk, ts, ta, tvs, ten⟩ := encT_shape c.term
  have he := encC_at ten
  rw [h2.1, h2.2] at he
  rw [he] at ho
  exact ⟨_, _, _, _, _, _, _, _, _, ho⟩
 have hD5 : 5 + (intT z).length ≤ 9223372036854775807 := by omega
 have hD6 : 6 + (intT z).length ≤ 9223372036854775807 := by omega
 cases none_ with
 | true =>
  cases pop with
  | true =>
   obtain ⟨c, c1, c2⟩ := lev_noneT (k := 9) (.inr rfl)
   obtain ⟨nm, pr, re, tb, tk, ts, ta, tvs, tms, ho⟩ := fin 9 1 _ c (by decide) c1 c2
   rw [hn9] at ho
   simp at ho
   generalize intT z = S at *
   simp [lf7, t1, t2, binS, maxLen, hD, hD5, hD6, ho, aw]
  | false =>
   obtain ⟨c, c1, c2⟩ := lev_noneT (k := 8) (.inl rfl)
   obtain ⟨nm, pr, re, tb, tk, ts, ta, tvs, tms, ho⟩ := fin 8 1 _ c (by decide) c1 c2
   rw [hn8] at ho
   simp at ho
   generalize intT z = S at *
   simp [lf7, t1, t2, binS, maxLen, hD, hD5, hD6, ho, aw]
 | false =>
  cases pop with
  | true =>
   by_cases hin : 0 ≤ z ∧ z ≤ 1000
   ·obtain ⟨c, c1, c2⟩ := q3 hin.1 hin.2
    obtain ⟨nm, pr, re, tb, tk, ts, ta, tvs, tms, ho⟩ := fin 9 z.toNat _ c (by omega) c1 c2
    have hzn : ((z.toNat : Nat) : Int) = z := by omega
    have i1 : (z < 0) = False := by simp; omega
    have i2 : (1000 < z) = False := by simp; omega
    unfold levT at ho
    rw [hn9, hzn] at ho
    simp at ho
    generalize intT z = S at *
    simp [lf7, t1, t2, binS, maxLen, hD, hD5, hD6, ho, aw, i1, i2]
   ·have ho := one_bad (by omega) (q2 (by omega))
    unfold levT at ho
    rw [hn9, enc0] at ho
    simp at ho
    generalize intT z = S at *
    by_cases i1 : z < 0
    ·simp [lf7, t1, t2, binS, maxLen, hD, hD5, hD6, ho, aw, i1]
    ·have i2 : 1000 < z := by omega
     simp [lf7, t1, t2, binS, maxLen, hD, hD5, hD6, ho, aw, i1, i2]
  | false =>
   by_cases hin : 0 ≤ z ∧ z ≤ 1000
   ·obtain ⟨c, c1, c2⟩ := p3 hin.1 hin.2
    obtain ⟨nm, pr, re, tb, tk, ts, ta, tvs, tms, ho⟩ := fin 8 z.toNat _ c (by omega) c1 c2
    have hzn : ((z.toNat : Nat) : Int) = z := by omega
    have i1 : (z < 0) = False := by simp; omega
    have i2 : (1000 < z) = False := by simp; omega
    unfold levT at ho
    rw [hn8, hzn] at ho
    simp at ho
    generalize intT z = S at *
    simp [lf7, t1, t2, binS, maxLen, hD, hD5, hD6, ho, aw, i1, i2]
   ·have ho := one_bad (by omega) (p2 (by omega))
    unfold levT at ho
    rw [hn8, enc0] at ho
    simp at ho
    generalize intT z = S at *
    by_cases i1 : z < 0
    ·simp [lf7, t1, t2, binS, maxLen, hD, hD5, hD6, ho, aw, i1]
    ·have i2 : 1000 < z := by omega
     simp [lf7, t1, t2, binS, maxLen, hD, hD5, hD6, ho, aw, i1, i2]
end Go.Proofs.YtcbagnlidecmkaaGreatDoor
