/-
  What strings.Repeat, decimal's numerals, powers of ten and Parse compute. No conditions beyond the lemmas' own hypotheses.
-/
import Derived.Shelf.LaysM
import Derived.Shelf.Strings.Repeat
import Derived.Test.YtgdpephlpdonnaaGreatDoorProg
import Derived.Test.YtgdpephlpdonnaaGreatDoorDecA
import Derived.Test.YtgdpephlpdonnaaGreatDoorRatE
set_option linter.unusedSimpArgs false
set_option linter.unusedVariables false
set_option linter.constructorNameAsVariable false

/-
  DERIVED: THE SHELF's CONTRACTS AT THIS DUMP, IN PLAIN WORDS (tools/lay-plain.mjs out of 'SrepShelf.lean', which tools/lay-shelf.mjs wrote): THE SAME DECLARATIONS UNDER THE SAME NAMES: 'import', 'namespace', 'open', 'def', 'theorem' AND NOTHING ELSE: no command of the shelf's: FOR A HAND-IN. Each laying: the table of numbers ('.._ren') and one theorem, a field a fact of the dump's own or the kernel's comparison; each contract: ONE APPLICATION.
-/
namespace Go.Proofs
open Go.Shelf
def Tryz.lays105_ren : Go.Shelf.Ren := ⟨fun | 105 => 69 | 212 => 104 | 99 => 105 | 165 => 106 | 166 => 86 | 170 => 107 | 169 => 87 | 263 => 128 | 264 => 73 | 206 => 129 | 240 => 112 | 241 => 130 | 276 => 135 | 277 => 144 | n => n, fun | 9 => 9 | 3 => 3 | 4 => 4 | 20 => 20 | 0 => 0 | 46 => 115 | 109 => 124 | 5 => 5 | 72 => 106 | 76 => 110 | 51 => 141 | 146 => 142 | 53 => 40 | 148 => 91 | 70 => 103 | 37 => 104 | 75 => 82 | 127 => 130 | 164 => 149 | 80 => 112 | n => n, fun | n => n⟩
theorem Tryz.lays105 : Go.Proofs.Lays.n105 Tryz.prog Tryz.lays105_ren := {
  mixed := by kernel_rfl
  f99 := Tryz.func105.trans (congrArg some (by kernel_rfl))
  f105 := Tryz.func69.trans (congrArg some (by kernel_rfl))
  f165 := Tryz.func106.trans (congrArg some (by kernel_rfl))
  f166 := Tryz.func86.trans (congrArg some (by kernel_rfl))
  f169 := Tryz.func87.trans (congrArg some (by kernel_rfl))
  f170 := Tryz.func107.trans (congrArg some (by kernel_rfl))
  f206 := Tryz.func129.trans (congrArg some (by kernel_rfl))
  f212 := Tryz.func104.trans (congrArg some (by kernel_rfl))
  f240 := Tryz.func112.trans (congrArg some (by kernel_rfl))
  f241 := Tryz.func130.trans (congrArg some (by kernel_rfl))
  f263 := Tryz.func128.trans (congrArg some (by kernel_rfl))
  f264 := Tryz.func73.trans (congrArg some (by kernel_rfl))
  f276 := Tryz.func135.trans (congrArg some (by kernel_rfl))
  f277 := Tryz.func144.trans (congrArg some (by kernel_rfl))
  t0 := Tryz.underlying0
  a0 := Tryz.isAgg0
  z0 := Tryz.sizeOf0
  v0 := Tryz.zeroValue0
  t3 := Tryz.underlying3
  a3 := Tryz.isAgg3
  z3 := Tryz.sizeOf3
  v3 := Tryz.zeroValue3
  t4 := Tryz.underlying4
  a4 := Tryz.isAgg4
  z4 := Tryz.sizeOf4
  v4 := Tryz.zeroValue4
  t5 := Tryz.underlying5
  a5 := Tryz.isAgg5
  z5 := Tryz.sizeOf5
  v5 := Tryz.zeroValue5
  t9 := Tryz.underlying9
  a9 := Tryz.isAgg9
  z9 := Tryz.sizeOf9
  v9 := Tryz.zeroValue9
  t20 := Tryz.underlying20
  a20 := Tryz.isAgg20
  z20 := Tryz.sizeOf20
  v20 := Tryz.zeroValue20
  t37 := Tryz.underlying104
  a37 := Tryz.isAgg104
  z37 := Tryz.sizeOf104
  v37 := Tryz.zeroValue104
  t46 := Tryz.underlying115
  a46 := Tryz.isAgg115
  z46 := Tryz.sizeOf115
  v46 := Tryz.zeroValue115
  t51 := Tryz.underlying141
  a51 := Tryz.isAgg141
  z51 := Tryz.sizeOf141
  v51 := Tryz.zeroValue141
  t53 := Tryz.underlying40
  a53 := Tryz.isAgg40
  z53 := Tryz.sizeOf40
  v53 := Tryz.zeroValue40
  t70 := Tryz.underlying103
  a70 := Tryz.isAgg103
  z70 := Tryz.sizeOf103
  v70 := Tryz.zeroValue103
  t72 := Tryz.underlying106
  a72 := Tryz.isAgg106
  z72 := Tryz.sizeOf106
  v72 := Tryz.zeroValue106
  t75 := Tryz.underlying82
  a75 := Tryz.isAgg82
  z75 := Tryz.sizeOf82
  v75 := Tryz.zeroValue82
  t76 := Tryz.underlying110
  a76 := Tryz.isAgg110
  z76 := Tryz.sizeOf110
  v76 := Tryz.zeroValue110
  t109 := Tryz.underlying124
  a109 := Tryz.isAgg124
  z109 := Tryz.sizeOf124
  v109 := Tryz.zeroValue124
  t127 := Tryz.underlying130
  a127 := Tryz.isAgg130
  z127 := Tryz.sizeOf130
  v127 := Tryz.zeroValue130
  t146 := Tryz.underlying142
  a146 := Tryz.isAgg142
  z146 := Tryz.sizeOf142
  v146 := Tryz.zeroValue142
  t148 := Tryz.underlying91
  a148 := Tryz.isAgg91
  z148 := Tryz.sizeOf91
  v148 := Tryz.zeroValue91
  t164 := Tryz.underlying149
  a164 := Tryz.isAgg149
  z164 := Tryz.sizeOf149
  v164 := Tryz.zeroValue149 }
theorem Tryz.Builder_Extra_105 : Builder.Extra Tryz.prog Tryz.lays105_ren := {
  sizeBuilder := by kernel_rfl
  liesBuilder := by kernel_rfl
  t5 := Tryz.underlying5
  a5 := Tryz.isAgg5
  z5 := Tryz.sizeOf5
  v5 := Tryz.zeroValue5
  infoByte := by kernel_rfl
  cellsByte := by kernel_rfl
  sizeByte := by kernel_rfl
  neB5 := by decide }
open Go.RowKit Go.Lib in
/-- **strings.Repeat: count ≥ 0, the result within one allocation: count copies of s.** (LAID: no walk: one application.) -/
theorem Tryz.strings_Repeat (s : ByteArray) (c : Nat) (w : World) (hc : c ≤ 9223372036854775807) (hlen : s.size * c ≤ 140737488355328) :
    Calls Tryz.prog 69 #[.string s, .int .i64 c] w fun e w' => e = .returned (.string ⟨(Lib.repeatL s.data.toList c).toArray⟩) ∧ Below w.heap.size w w' := Any.strings_Repeat Tryz.lays105 Tryz.Builder_Extra_105 s c w hc hlen
end Go.Proofs

/-
  decimal: numerals, powers of ten, Parse.
-/
namespace Go.Proofs.YtgdpephlpdonnaaGreatDoor
open Go Go.Abs Go.Limbs
variable {base : Prot}
set_option maxRecDepth 20000
attribute [local irreducible] vc
attribute [local simp] pureS touchV freezeL fuel shiftV u64 au
/-! ### strings.Repeat of noughts -/
theorem repeatL_noughts : ∀ c : Nat, Lib.repeatL [48] c = List.replicate c 48
  | 0 => rfl
  | c + 1 => by
    show [48] ++ Lib.repeatL [48] c = _
    rw [repeatL_noughts c, List.replicate_succ]
    rfl
def sRepN : List PVal → Option PVal
  | [.str s, .int .i64 n] => if s = [48] ∧ 0 ≤ n ∧ n ≤ 100000 then some (.str (List.replicate n.toNat 48)) else none
  | _ => none
theorem sRepN_at {n : Nat} (h : n ≤ 100000) : sRepN [.str [48], .int .i64 (n : Int)] = some (.str (List.replicate n 48)) := by
  simp only [sRepN]
  rw [if_pos ⟨by trivial, by omega, by omega⟩]
  rfl
theorem repN_ok : FnOk Tryz.prog base 69 (pureS sRepN) := by
  refine fn_of_calls (by kernel_rfl) fun ps x hs c w vs hb hl hr => ?_
  unfold sRepN at hs
  split at hs
  case h_2 => cases hs
  rename_i s n
  split at hs
  case isFalse => cases hs
  rename_i hc
  obtain ⟨rfl, h0, h1⟩ := hc
  cases hs
  match vs, hl with
  | [v0, v1], _ =>
    have r0 := hr 0 _ v0 rfl rfl
    have r1 := hr 1 _ v1 rfl rfl
    cases r0
    cases r1
    obtain ⟨m, rfl⟩ : ∃ m : Nat, n = (m : Int) := ⟨n.toNat, by omega⟩
    refine (Go.Proofs.Tryz.strings_Repeat ⟨[48].toArray⟩ m w (by omega) (by show [48].toArray.size * m ≤ _; simp; omega)).mono ?_
    rintro e w' ⟨rfl, hw⟩
    refine ⟨_, rfl, ?_, hw⟩
    rw [show (⟨#[48]⟩ : ByteArray).data.toList = [48] from rfl, repeatL_noughts]
    exact .str _ (by unfold maxLen; simp; omega)
/-! ### Numerals -/
def numS (s : List UInt8) : Bool := digS s && (decide (s = [48]) || !decide (s.head? = some 48))
def sNum : List PVal → Option PVal
  | [.str s] => some (.bool (numS s))
  | _ => none
theorem sNum_at (s : List UInt8) : sNum [.str s] = some (.bool (numS s)) := rfl
def Tdn : Tab := Tab.none.with 24 (pureS sDig)
theorem Tdn_ok : TabOk Tryz.prog base Tdn := Tab.with_ok Tab.none_ok digits_ok
theorem Tdn_mu (f : FuncId) (a : List AVal) (H : Heap) : Tdn.mu f a H = none := (rfl)
theorem Tdn_fn : Tdn.fn 24 = pureS sDig := (rfl)
theorem dnum_ok : FnOk Tryz.prog base 23 (pureS sNum) := by
  refine pure_of_vc hmix Tdn_ok globNone low23 fun args z hs hf => ?_
  unfold sNum at hs
  split at hs
  case h_2 => cases hs
  rename_i s
  cases hs
  refine ⟨by simp [lf23], ?_⟩
  have d := sDig_at s
  unfold numS
  cases hd : digS s with
  | false => rw [hd] at d; simp [lf23, d, Tdn_mu, Tdn_fn]
  | true =>
    rw [hd] at d
    have hne : s ≠ [] := fun e => by rw [e] at hd; simp [digS] at hd
    have hl0 : 0 < s.length := List.length_pos_iff.2 hne
    have hl : (0 : Int) < (s.length : Int) := by omega
    obtain ⟨c, hc0⟩ : ∃ c, s[0]? = some c := ⟨_, List.getElem?_eq_getElem hl0⟩
    have hc : s[0] = c := by rw [List.getElem?_eq_getElem hl0] at hc0; exact Option.some.inj hc0
    have hh : decide (s.head? = some 48) = decide (c = 48) := by
      rw [List.head?_eq_getElem?, hc0]
      exact decide_eq_decide.2 ⟨fun h => by cases h; rfl, fun h => by rw [h]⟩
    have hq : ((c.toNat : Int) != 48) = !decide (c = 48) := by
      by_cases h : c = 48
      · subst h; rfl
      · rw [decide_eq_false h]
        exact bne_iff_ne.2 fun e => h (UInt8.toNat_inj.1 (by rw [show UInt8.toNat 48 = 48 from rfl]; omega))
    have hb : (s == [48]) = decide (s = [48]) := by
      by_cases h : s = [48]
      · rw [h]; rfl
      · rw [decide_eq_false h]; exact beq_false_of_ne h
    rw [hh]
    obtain ⟨b1, h1⟩ : ∃ b, b = decide (s = [48]) := ⟨_, rfl⟩
    obtain ⟨b2, h2⟩ : ∃ b, b = decide (c = 48) := ⟨_, rfl⟩
    rw [← h1] at hb ⊢
    rw [← h2] at hq ⊢
    cases b1 <;> cases b2 <;> simp [lf23, d, binS, hb, hl0, hc, hq, Tdn_mu, Tdn_fn]
/-! ### Powers of ten -/
theorem numD_noughts (n : Nat) : ∀ acc : Nat, numD acc (List.replicate n 48) = acc * 10 ^ n := by
  induction n with
  | zero => intro acc; rw [Nat.pow_zero, Nat.mul_one]; rfl
  | succ n ih =>
    intro acc
    have h : numD acc (List.replicate (n + 1) 48) = numD (acc * 10 + 0) (List.replicate n 48) := by rw [List.replicate_succ]; rfl
    rw [h, ih, Nat.add_zero, Nat.pow_succ, Nat.mul_assoc, Nat.mul_comm 10]
def sPow : List PVal → Option PVal
  | [.int .i64 n] => if 0 ≤ n ∧ n ≤ 80000 then some (.lst ((limbs (10 ^ n.toNat)).map u64)) else none
  | _ => none
theorem sPow_at {n : Nat} (h : n ≤ 80000) : sPow [.int .i64 (n : Int)] = some (.lst ((limbs (10 ^ n)).map u64)) := by
  simp only [sPow]
  rw [if_pos ⟨by omega, by omega⟩]
  rfl
def Tdp : Tab := (Tab.none.with 69 (pureS sRepN)).with 27 (pureS sRead)
theorem Tdp_ok : TabOk Tryz.prog base Tdp := Tab.with_ok (Tab.with_ok Tab.none_ok repN_ok) read_ok
theorem Tdp_mu (f : FuncId) (a : List AVal) (H : Heap) : Tdp.mu f a H = none := (rfl)
theorem Tdp_fns : Tdp.fn 69 = pureS sRepN ∧ Tdp.fn 27 = pureS sRead := ⟨rfl, rfl⟩
theorem dpow_ok : FnOk Tryz.prog base 28 (pureS sPow) := by
  refine pure_of_vc hmix Tdp_ok globNone low28 fun args z hs hf => ?_
  unfold sPow at hs
  split at hs
  case h_2 => cases hs
  rename_i n
  split at hs
  case isFalse => cases hs
  rename_i hc
  obtain ⟨h0, h1⟩ := hc
  cases hs
  obtain ⟨m, rfl⟩ : ∃ m : Nat, n = (m : Int) := ⟨n.toNat, by omega⟩
  refine ⟨by simp [lf28], ?_⟩
  have r := sRepN_at (n := m) (by omega)
  have hall : (49 :: List.replicate m 48).all isD = true := by
    rw [List.all_cons]
    have : (List.replicate m (48 : UInt8)).all isD = true := List.all_eq_true.2 fun x hx => by rw [(List.mem_replicate.1 hx).2]; decide
    rw [this]
    decide
  have d := sRead_at hall (by simp; omega)
  have e : numD 0 (49 :: List.replicate m 48) = 10 ^ m := by
    show numD (0 * 10 + (UInt8.toNat 49 - 48)) (List.replicate m 48) = _
    rw [numD_noughts, show 0 * 10 + (UInt8.toNat 49 - 48) = 1 from rfl, Nat.one_mul]
  rw [e] at d
  have hm : 1 + m ≤ maxLen := by unfold maxLen; omega
  have hm2 : m + 1 ≤ maxLen := by unfold maxLen; omega
  rw [Int.toNat_natCast]
  simp [lf28, r, d, binS, hm, hm2, Tdp_mu, Tdp_fns]
end Go.Proofs.YtgdpephlpdonnaaGreatDoor

/-
  decimal: Parse, Show.
-/
namespace Go.Proofs.YtgdpephlpdonnaaGreatDoor
open Go Go.Abs Go.Limbs
variable {base : Prot}
set_option maxRecDepth 20000
attribute [local irreducible] vc
attribute [local simp] pureS touchV freezeL fuel shiftV u64 au
/-! ### Parse -/
def fracS (U D : List UInt8) : Rat := mkRat (zOf false (numD 0 (U ++ D))) (10 ^ D.length)
def parseD (s : List UInt8) : Fr × Nat :=
  if numS (cutU 46 s) && (!cutB 46 s || digS (cutD 46 s)) then
    (if (trimR0 (cutD 46 s)).length ≤ 4096 ∧ (cutU 46 s).length ≤ 4096 then heldQ (fracS (cutU 46 s) (trimR0 (cutD 46 s))) else (zF, 4))
  else (zF, 2)
def sDParse : List PVal → Option PVal
  | [.str s] => if s.length ≤ 80000 then some (pairF (parseD s)) else none
  | _ => none
theorem sDParse_at {s : List UInt8} (h : s.length ≤ 80000) : sDParse [.str s] = some (pairF (parseD s)) := if_pos h
theorem trimR0_all {p : UInt8 → Bool} {s : List UInt8} (h : s.all p = true) : (trimR0 s).all p = true := by
  unfold trimR0
  rw [List.all_reverse, List.all_eq_true]
  intro x hx
  have := (List.dropWhile_sublist (p := (· == 48)) (l := s.reverse)).mem hx
  exact List.all_eq_true.1 h x (List.mem_reverse.1 this)
theorem trimR0_len (s : List UInt8) : (trimR0 s).length ≤ s.length := by
  unfold trimR0
  have := (List.dropWhile_sublist (p := (· == 48)) (l := s.reverse)).length_le
  simpa using this
theorem numS_digS {s : List UInt8} (h : numS s = true) : digS s = true := by
  unfold numS at h
  simp only [Bool.and_eq_true] at h
  exact h.1
theorem pow10_ne (n : Nat) : 10 ^ n ≠ 0 := Nat.ne_of_gt (Nat.pow_pos (by decide))
theorem len_pow10 (n : Nat) : len (10 ^ n) ≤ n + 1 := len_dig (Nat.pow_lt_pow_right (by decide) (Nat.lt_succ_self n))
def Tpd : Tab := ((((((Tab.none.with 22 (pureS sCutS)).with 23 (pureS sNum)).with 24 (pureS sDig)).with 25 (pureS sTR)).with 27 (pureS sRead)).with 28 (pureS sPow)).with 26 (pureS sLow)
theorem Tpd_ok : TabOk Tryz.prog base Tpd := Tab.with_ok (Tab.with_ok (Tab.with_ok (Tab.with_ok (Tab.with_ok (Tab.with_ok (Tab.with_ok Tab.none_ok scut_ok) dnum_ok) digits_ok) trimR_ok) read_ok) dpow_ok) qlow_ok
theorem Tpd_mu (f : FuncId) (a : List AVal) (H : Heap) : Tpd.mu f a H = none := (rfl)
theorem Tpd_fns : Tpd.fn 22 = pureS sCutS ∧ Tpd.fn 23 = pureS sNum ∧ Tpd.fn 24 = pureS sDig ∧ Tpd.fn 25 = pureS sTR ∧ Tpd.fn 27 = pureS sRead ∧ Tpd.fn 28 = pureS sPow ∧ Tpd.fn 26 = pureS sLow := ⟨rfl, rfl, rfl, rfl, rfl, rfl, rfl⟩
theorem cutD_none {c : UInt8} {s : List UInt8} (h : cutB c s = false) : cutD c s = [] := by
  rcases idx_spec c s with ⟨_, _, _, h4⟩ | ⟨h1, _⟩
  · exact h4
  · rw [h] at h1; cases h1
theorem dparse_ok : FnOk Tryz.prog base 7 (pureS sDParse) := by
  refine pure_of_vc hmix Tpd_ok globNone low7 fun args z hs hf => ?_
  unfold sDParse at hs
  split at hs
  case h_2 => cases hs
  rename_i s
  split at hs
  case isFalse => cases hs
  rename_i hl
  cases hs
  refine ⟨by simp [lf7], ?_⟩
  have e1 : sCutS [.str s, .str [46]] = some (.tup [.str (cutU 46 s), .str (cutD 46 s), .bool (cutB 46 s)]) := rfl
  have lU := cutU_len 46 s
  have lD := cutD_len 46 s
  have hnone := cutD_none (c := 46) (s := s)
  unfold parseD
  obtain ⟨U, hU⟩ : ∃ u, u = cutU 46 s := ⟨_, rfl⟩
  obtain ⟨D, hD⟩ : ∃ u, u = cutD 46 s := ⟨_, rfl⟩
  obtain ⟨b, hb⟩ : ∃ u, u = cutB 46 s := ⟨_, rfl⟩
  rw [← hU] at lU
  rw [← hD] at lD hnone
  rw [← hb] at hnone
  rw [← hU, ← hD, ← hb] at e1 ⊢
  have n1 := sNum_at U
  have d1 := sDig_at D
  have t1 := sTR_at D
  have lE := trimR0_len D
  cases hn : numS U with
  | false =>
    rw [hn] at n1
    simp [lf7, e1, n1, pairF, zF, Fr.enc, fillS, Tpd_mu, Tpd_fns]
  | true =>
  rw [hn] at n1
  have rest : (b = false ∨ digS D = true) → vc Tpd lf7.body (endQ Tpd lf7.results (pairF (if (trimR0 D).length ≤ 4096 ∧ U.length ≤ 4096 then heldQ (fracS U (trimR0 D)) else (zF, 4)))) (initFr ([.str s].map AVal.p)) [] := by
    intro hor
    have hall : D.all isD = true := by
      rcases hor with h | h
      · rw [hnone h]; rfl
      · exact digS_all h
    have hE := trimR0_all hall
    have hbd : ∀ {X : Prop}, (b = true → digS D = true → X) → (b = false → X) → X := by
      intro X h1 h2
      cases hbb : b with
      | false => exact h2 hbb
      | true => exact h1 hbb (by rcases hor with h | h; rw [hbb] at h; cases h; exact h)
    obtain ⟨E, hEe⟩ : ∃ e, e = trimR0 D := ⟨_, rfl⟩
    rw [← hEe] at t1 lE hE ⊢
    by_cases h1 : E.length ≤ 4096
    · have h1' : ¬ (4096 : Int) < E.length := by omega
      by_cases h2 : U.length ≤ 4096
      · have h2' : ¬ (4096 : Int) < U.length := by omega
        rw [if_pos ⟨h1, h2⟩]
        have hUE : (U ++ E).all isD = true := by rw [List.all_append, digS_all (numS_digS hn), hE]; rfl
        have r1 := sRead_at hUE (by rw [List.length_append]; omega)
        have p1 := sPow_at (n := E.length) (by omega)
        have hm : U.length + E.length ≤ maxLen := by unfold maxLen; omega
        have hlt := len_dig (numD_lt _ hUE)
        rw [List.length_append] at hlt
        have hlp := len_pow10 E.length
        have L := sLow_num false (a := numD 0 (U ++ E)) (b := 10 ^ E.length) (by omega) (by omega) (pow10_ne _)
        rw [show mkRat (zOf false (numD 0 (U ++ E))) (10 ^ E.length) = fracS U E from rfl] at L
        obtain ⟨A, hA⟩ : ∃ a, a = numD 0 (U ++ E) := ⟨_, rfl⟩
        obtain ⟨B', hB⟩ : ∃ a, a = 10 ^ E.length := ⟨_, rfl⟩
        rw [← hA] at r1 L
        rw [← hB] at p1 L
        obtain ⟨R, hR⟩ : ∃ R, R = heldQ (fracS U E) := ⟨_, rfl⟩
        rw [← hR] at L ⊢
        simp only [pairF, Fr.enc] at L ⊢
        refine hbd (fun hb1 hd => ?_) (fun hb0 => ?_)
        · subst hb1
          rw [hd] at d1
          simp [lf7, e1, n1, d1, t1, h1', h2', h1, h2, binS, hm, r1, p1, L, fillS, Tpd_mu, Tpd_fns]
        · subst hb0
          simp [lf7, e1, n1, t1, h1', h2', h1, h2, binS, hm, r1, p1, L, fillS, Tpd_mu, Tpd_fns]
      · have h2' : (4096 : Int) < U.length := by omega
        rw [if_neg (fun h => h2 h.2)]
        refine hbd (fun hb1 hd => ?_) (fun hb0 => ?_)
        · subst hb1
          rw [hd] at d1
          simp [lf7, e1, n1, d1, t1, h1', h2', h1, h2, pairF, zF, Fr.enc, fillS, Tpd_mu, Tpd_fns]
        · subst hb0
          simp [lf7, e1, n1, t1, h1', h2', h1, h2, pairF, zF, Fr.enc, fillS, Tpd_mu, Tpd_fns]
    · have h1' : (4096 : Int) < E.length := by omega
      rw [if_neg (fun h => h1 h.1)]
      refine hbd (fun hb1 hd => ?_) (fun hb0 => ?_)
      · subst hb1
        rw [hd] at d1
        simp [lf7, e1, n1, d1, t1, h1', h1, pairF, zF, Fr.enc, fillS, Tpd_mu, Tpd_fns]
      · subst hb0
        simp [lf7, e1, n1, t1, h1', h1, pairF, zF, Fr.enc, fillS, Tpd_mu, Tpd_fns]
  cases hbb : b with
  | false => exact (by simpa using rest (.inl hbb))
  | true =>
    cases hd : digS D with
    | true => exact (by simpa using rest (.inr hd))
    | false =>
      subst hbb
      rw [hd] at d1
      simp [lf7, e1, n1, d1, pairF, zF, Fr.enc, fillS, Tpd_mu, Tpd_fns]
end Go.Proofs.YtgdpephlpdonnaaGreatDoor
