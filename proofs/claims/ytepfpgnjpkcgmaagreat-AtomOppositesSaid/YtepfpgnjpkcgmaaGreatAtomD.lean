/-
  What is told of ids, as law9 hands it on; the plain law of atoms; law9's awake. No conditions beyond the lemmas' own hypotheses.
-/
import Derived.Test.YtepfpgnjpkcgmaaGreatAtomC
import Derived.Test.YtepfpgnjpkcgmaaGreatAtomL
set_option linter.unusedSimpArgs false
set_option linter.unnecessarySimpa false
set_option linter.unusedVariables false
set_option linter.constructorNameAsVariable false

/-
  law9: what is told of ids.
-/
namespace Go.Proofs.YtepfpgnjpkcgmaaGreat
open Go Go.Abs Go.Limbs
variable {base : Prot}
set_option maxRecDepth 20000
attribute [local irreducible] vc
attribute [local simp] pureS touchV freezeL fuel shiftV u64 au
/-! ### What is told of ids, as the document's -/
def sBinds9 : List PVal → Option PVal
  | [.lst vs] => match decBs vs with | some l => if l.length ≤ 1000000 then some (.lst vs) else none | none => none
  | _ => none
theorem sBinds9_at {l : List Bd} (h : wfB l) (hl : l.length ≤ 1000000) : sBinds9 [.lst (l.map Bd.enc)] = some (.lst (l.map Bd.enc)) := by simp only [sBinds9, decBs_enc h, if_pos hl]
theorem binds9_ok : FnOk Tryz.prog base 44 (pureS sBinds9) := by
  refine pure_of_vc hmix Tab.none_ok globNone low44 fun args z hs hf => ?_
  unfold sBinds9 at hs
  split at hs
  case h_2 => cases hs
  split at hs
  case h_2 => cases hs
  rename_i l hl
  obtain ⟨rfl, wl⟩ := decBs_some hl
  split at hs
  case isFalse => cases hs
  rename_i hlen
  cases hs
  have hm := maxLen_ge
  refine ⟨by simp [lf44], ?_⟩
  simp [lf44]
  simp only [lf44_B0, vc_block]
  refine loop_ind (fun fr H => ∃ i : Nat, i ≤ l.length ∧ Grown 0 4 104 ((l.take i).map Bd.enc) (fr 3) H ∧ fr 0 = .p (.lst (l.map Bd.enc)) ∧ fr 4 = .p (.int .i64 i)) (fun fr _ => l.length - ivar (fr 4))
    ⟨0, by omega, by simp; exact .nil _ _ _ _, by simp, by simp⟩ ?_
  rintro fr H ⟨i, hi, hg, f0, f4⟩
  by_cases h1 : i < l.length
  · obtain ⟨b, hb⟩ : ∃ b, l[i]? = some b := ⟨_, List.getElem?_eq_getElem h1⟩
    have hbe := getE hb
    have hw := wrap_succ (i := i) (by omega)
    have htk := take_succ_get hb
    obtain ⟨k', v', ex', happ, hg'⟩ := (hg.more [⟨4, 0, false, [.p b.enc], 104⟩]).app (pre := []) rfl (y := b.enc) rfl rfl (by omega) (bytes := 64) (by simp; omega) (by simp; omega)
    simp only [Bd.enc, List.nil_append] at happ
    have hnew : (l.take (i + 1)).map Bd.enc = (l.take i).map Bd.enc ++ [b.enc] := by rw [htk, List.map_append]; rfl
    simp [f0, f4, h1, hbe, Bd.enc]
    rw [vc_regionW]
    refine ⟨[], ?_⟩
    simp [f0, f4, h1, hbe, Bd.enc, fillS, -appV, happ, hw, ivar]
    exact ⟨⟨i + 1, by omega, by rw [← List.map_take, hnew]; simpa [Nat.min_eq_left hi] using hg', by omega⟩, by omega⟩
  · have hil : i = l.length := by omega
    rw [hil, List.take_length] at hg
    obtain ⟨x3, h3⟩ : ∃ x, x = fr 3 := ⟨_, rfl⟩
    rw [← h3] at hg
    rcases hg with ⟨he, rfl⟩ | ⟨j, v, rfl, hj⟩
    · have : l = [] := by simpa using he
      subst this
      have hi0 : i = 0 := by simpa using hil
      subst hi0
      simp [f0, f4, ← h3]
    · rw [Nat.zero_add] at h3
      simp [f0, f4, h1, ← h3, hj, mapO_pe, take_map]
def sFewB9 : List PVal → Option PVal
  | [.lst vs] => match decBs vs with | some l => some (.bool (fewB l)) | none => none
  | _ => none
theorem sFewB9_at {l : List Bd} (h : wfB l) : sFewB9 [.lst (l.map Bd.enc)] = some (.bool (fewB l)) := by simp only [sFewB9, decBs_enc h]
theorem fewB9_ok : FnOk Tryz.prog base 36 (pureS sFewB9) := by
  refine pure_of_vc hmix Tap_ok globNone low36 fun args z hs hf => ?_
  unfold sFewB9 at hs
  split at hs
  case h_2 => cases hs
  split at hs
  case h_2 => cases hs
  rename_i l hl
  obtain ⟨rfl, wl⟩ := decBs_some hl
  cases hs
  refine ⟨by simp [lf36], ?_⟩
  obtain ⟨r, hr⟩ : ∃ r, r = fewB l := ⟨_, rfl⟩
  rw [← hr]
  simp [lf36]
  simp only [lf36_B0, vc_block]
  refine loop_ind (fun fr H => ∃ i : Nat, H = [] ∧ i ≤ l.length ∧ i ≤ 20 ∧ (l.take i).all (fun b => fewF1 b.x) = true ∧ fr 0 = .p (.lst (l.map Bd.enc)) ∧ fr 3 = .p (.int .i64 i)) (fun fr _ => 20 - ivar (fr 3)) ⟨0, rfl, by omega, by omega, by simp, by simp, by simp⟩ ?_
  rintro fr H ⟨i, rfl, hi, hi20, hall, f0, f3⟩
  by_cases hlt : i < l.length ∧ i < 20
  · obtain ⟨h1, h2⟩ := hlt
    have h2I : (i : Int) < 20 := by omega
    obtain ⟨b, hb⟩ : ∃ b, l[i]? = some b := ⟨_, List.getElem?_eq_getElem h1⟩
    have hbe := getE hb
    have hw := wrap_succ (i := i) (by omega)
    have htk := take_succ_get hb
    have hcx : f1 fewP1 [b.x.enc] = some (.bool (fewF1 b.x)) := f1_at (wl b (List.mem_of_getElem? hb))
    simp only [Fr.enc] at hcx
    cases hf1 : fewF1 b.x with
    | false =>
      rw [hf1] at hcx
      have : r = false := by
        rw [hr]
        unfold fewB
        have : (l.take 20).all (fun b => fewF1 b.x) = false := by
          cases h : (l.take 20).all (fun b => fewF1 b.x) with
          | false => rfl
          | true =>
            have := List.all_eq_true.1 h b (List.mem_of_getElem? (show (l.take 20)[i]? = some b by rw [List.getElem?_take, if_pos h2]; exact hb))
            rw [hf1] at this
            cases this
        rw [this]; rfl
      simp [f0, f3, h1, h2I, hbe, Bd.enc, hcx, this, Tap_mu, Tap_fn]
    | true =>
      rw [hf1] at hcx
      simp [f0, f3, h1, h2I, hbe, Bd.enc, hcx, hw, ivar, Tap_mu, Tap_fn]
      exact ⟨⟨i + 1, by omega, by omega, by
        intro x hx
        rw [htk] at hx
        rcases List.mem_append.1 hx with hx | hx
        · exact List.all_eq_true.1 hall x hx
        · rw [List.mem_singleton] at hx; subst hx; exact hf1, by omega⟩, by omega⟩
  · have hall20 : (l.take 20).all (fun b => fewF1 b.x) = true := by
      by_cases h : i = 20
      · rw [← h]; exact hall
      · have : i = l.length := by omega
        rw [List.take_of_length_le (by omega), ← hall, this, List.take_of_length_le (Nat.le_refl _)]
    have hfe : r = decide (l.length ≤ 12) := by rw [hr]; unfold fewB; rw [hall20]; rfl
    rw [hfe]
    by_cases h1 : i < l.length
    · have h2I : ¬ (i : Int) < 20 := by omega
      have h3 : ¬ l.length ≤ 12 := by omega
      have h3I : ¬ (l.length : Int) ≤ 12 := by omega
      simp [f0, f3, h1, h2I, h3, h3I]
    · by_cases h3 : l.length ≤ 12
      · have h3I : (l.length : Int) ≤ 12 := by omega
        simp [f0, f3, h1, h3, h3I]
      · have h3I : ¬ (l.length : Int) ≤ 12 := by omega
        simp [f0, f3, h1, h3, h3I]
def sClo9 : List PVal → Option PVal
  | [.int .i64 i, .cptr [.lst vs]] => match decBs vs with | some l => if l.length ≤ 1000000 then some (lookB l i).enc else none | none => none
  | _ => none
theorem sClo9_at {l : List Bd} {i : Int} (h : wfB l) (hl : l.length ≤ 1000000) : sClo9 [.int .i64 i, .cptr [.lst (l.map Bd.enc)]] = some (lookB l i).enc := by simp only [sClo9, decBs_enc h, if_pos hl]
def Tclo9 : Tab := (Tab.none.with 44 (pureS sBinds9)).with 25 (pureS sLook)
theorem Tclo9_ok : TabOk Tryz.prog base Tclo9 := Tab.with_ok (Tab.with_ok Tab.none_ok binds9_ok) rlook_ok
theorem Tclo9_mu (f : FuncId) (a : List AVal) (H : Heap) : Tclo9.mu f a H = none := (rfl)
theorem Tclo9_fns : Tclo9.fn 44 = (pureS sBinds9) ∧ Tclo9.fn 25 = (pureS sLook) := ⟨rfl, rfl⟩
theorem clo9_ok : FnOk Tryz.prog base 43 (pureS sClo9) := by
  refine pure_of_vc hmix Tclo9_ok globNone low43 fun args z hs hf => ?_
  unfold sClo9 at hs
  split at hs
  case h_2 => cases hs
  rename_i i vs
  split at hs
  case h_2 => cases hs
  rename_i l hl
  obtain ⟨rfl, wl⟩ := decBs_some hl
  split at hs
  case isFalse => cases hs
  rename_i hlen
  cases hs
  refine ⟨by simp [lf43], ?_⟩
  have v1 := sBinds9_at wl hlen
  have v2 := sLook_at (i := i) wl
  simp only [Fr.enc] at v2 ⊢
  simp [lf43, v1, v2, Tclo9_mu, Tclo9_fns]
theorem clo9o_ok : FnOk Tryz.prog base 55 (pureS sClo9) := by
  refine pure_of_vc hmix Tclo9_ok globNone low55 fun args z hs hf => ?_
  unfold sClo9 at hs
  split at hs
  case h_2 => cases hs
  rename_i i vs
  split at hs
  case h_2 => cases hs
  rename_i l hl
  obtain ⟨rfl, wl⟩ := decBs_some hl
  split at hs
  case isFalse => cases hs
  rename_i hlen
  cases hs
  refine ⟨by simp [lf55], ?_⟩
  have v1 := sBinds9_at wl hlen
  have v2 := sLook_at (i := i) wl
  simp only [Fr.enc] at v2 ⊢
  simp [lf55, v1, v2, Tclo9_mu, Tclo9_fns]
def Tclo9a : Tab := Tab.none.with 82 (pureS sQOf)
theorem Tclo9a_ok : TabOk Tryz.prog base Tclo9a := Tab.with_ok Tab.none_ok rofR_ok
theorem Tclo9a_mu (f : FuncId) (a : List AVal) (H : Heap) : Tclo9a.mu f a H = none := (rfl)
theorem Tclo9a_fns : Tclo9a.fn 82 = (pureS sQOf) := (rfl)
def sClo9a : List PVal → Option PVal
  | [.int .i64 _] => some (ofQ 2).enc
  | _ => none
theorem clo9a_ok : FnOk Tryz.prog base 108 (pureS sClo9a) := by
  refine pure_of_vc hmix Tclo9a_ok globNone low108 fun args z hs hf => ?_
  unfold sClo9a at hs
  split at hs
  case h_2 => cases hs
  cases hs
  refine ⟨by simp [lf108], ?_⟩
  have o1 := oL (n := 2) (d := 1) (q := 2) (by decide) (by decide +kernel)
  obtain ⟨x, hx⟩ : ∃ x, x = ofQ 2 := ⟨_, rfl⟩
  rw [← hx] at o1 ⊢
  simp only [Fr.enc] at o1 ⊢
  simp [lf108, o1, Tclo9a_mu, Tclo9a_fns]
/-- What functions of ids law9 hands on. -/
def L9 : Lk
  | .clo 43 [.cptr [.lst vs]], _ => match decBs vs with | some l => if l.length ≤ 1000000 then some (lookB l) else none | none => none
  | .clo 55 [.cptr [.lst vs]], _ => match decBs vs with | some l => if l.length ≤ 1000000 then some (lookB l) else none | none => none
  | .clo 108 [], _ => some (fun _ => ofQ 2)
  | _, _ => none
theorem L9_at2 {l : List Bd} {p : Po} (h : wfB l) (hl : l.length ≤ 1000000) : L9 (.clo 55 [.cptr [.lst (l.map Bd.enc)]]) p = some (lookB l) := by simp only [L9, decBs_enc h, if_pos hl]
def Tv9 : Tab := (((((((Tab.none.with 30 (pureS (g1 okPo))).with 89 (pureS (f1 boolF))).with 86 (pureS sOwn)).with 90 (pureS (f2 mulP))).with 85 (pureS (f2 addP))).with 43 (pureS sClo9)).with 55 (pureS sClo9)).with 108 (pureS sClo9a)
theorem Tv9_ok : TabOk Tryz.prog base Tv9 := Tab.with_ok (Tab.with_ok (Tab.with_ok (Tab.with_ok (Tab.with_ok (Tab.with_ok (Tab.with_ok (Tab.with_ok Tab.none_ok lvalid_ok) qvalid_ok) lown_ok) qmul_ok) qadd_ok) clo9_ok) clo9o_ok) clo9a_ok
theorem Tv9_mu (f : FuncId) (a : List AVal) (H : Heap) : Tv9.mu f a H = none := (rfl)
theorem Tv9_fns : Tv9.fn 30 = (pureS (g1 okPo)) ∧ Tv9.fn 89 = (pureS (f1 boolF)) ∧ Tv9.fn 86 = (pureS sOwn) ∧ Tv9.fn 90 = (pureS (f2 mulP)) ∧ Tv9.fn 85 = (pureS (f2 addP)) ∧ Tv9.fn 43 = (pureS sClo9) ∧ Tv9.fn 55 = (pureS sClo9) ∧ Tv9.fn 108 = (pureS sClo9a) := ⟨rfl, rfl, rfl, rfl, rfl, rfl, rfl, rfl⟩
theorem L9_ok : LkOk Tv9 L9 where
  mu := Tv9_mu
  ok c p lk h := by
    unfold L9 at h
    split at h
    · split at h
      · rename_i l hl
        obtain ⟨rfl, wl⟩ := decBs_some hl
        split at h
        · rename_i hlen
          cases h
          refine ⟨_, _, rfl, fun x _ => ⟨wf_lookB wl, ?_⟩⟩
          rw [Tv9_fns.2.2.2.2.2.1, pureS, sClo9_at wl hlen]
        · cases h
      · cases h
    · split at h
      · rename_i l hl
        obtain ⟨rfl, wl⟩ := decBs_some hl
        split at h
        · rename_i hlen
          cases h
          refine ⟨_, _, rfl, fun x _ => ⟨wf_lookB wl, ?_⟩⟩
          rw [Tv9_fns.2.2.2.2.2.2.1, pureS, sClo9_at wl hlen]
        · cases h
      · cases h
    · cases h
      refine ⟨_, _, rfl, fun x hx => ⟨wf_ofQ _, ?_⟩⟩
      rw [Tv9_fns.2.2.2.2.2.2.2, pureS]
      rfl
    · cases h
theorem value9_ok : FnOk Tryz.prog base 23 (pureS (sValue L9)) := value_ok Tv9_ok ⟨Tv9_fns.1, Tv9_fns.2.1, Tv9_fns.2.2.1, Tv9_fns.2.2.2.1, Tv9_fns.2.2.2.2.1⟩ L9_ok
theorem holds9_ok : FnOk Tryz.prog base 42 (pureS (sHolds L9)) := aholds_ok value9_ok
end Go.Proofs.YtepfpgnjpkcgmaaGreat

/-
  Atoms made of sums of fractions: the plain law.
-/
namespace Go.Proofs.YtepfpgnjpkcgmaaGreat
open Go Go.Abs Go.Limbs
set_option maxRecDepth 20000
def sgnQ (c : Rat) : Rat := if c < 0 then -1 else if c = 0 then 0 else 1
def szQ (k : Int) (c : Rat) : Rat := if c < 0 ∧ k ≠ 3 then -c else c
def normQ (k : Int) (P : Qo) : Qo := match P.ps with
  | [] => ⟨[], sgnQ P.c⟩
  | x :: _ => scaleQ P (1 / szQ k x.1)
def Can (k : Int) (N : Qo) : Prop := match N.ps with
  | [] => N.c = -1 ∨ N.c = 0 ∨ N.c = 1
  | x :: _ => x.1 = 1 ∨ (k ≠ 3 ∧ x.1 = -1)
def atQ (k : Int) (N : Qo) : At := ⟨k, ofP N, 0, 0⟩
theorem sm1 : Sm 1 (1 : Rat) := by decide +kernel
theorem smm1 : Sm 1 (-1 : Rat) := by decide +kernel
theorem sgn_of (c : Rat) : Rat.divInt (cmpQ c 0) 1 = sgnQ c := by
  unfold sgnQ
  rcases rat_tri c 0 with h | h | h
  · rw [cmpQ_lt h, if_pos h]; decide +kernel
  · subst h; rw [cmpQ_eq, if_neg (lt_irr _), if_pos rfl]; decide +kernel
  · rw [cmpQ_gt h, if_neg (lt_asymm h), if_neg (by rintro rfl; exact lt_irr _ h)]; decide +kernel
theorem sgn_case (c : Rat) : sgnQ c = -1 ∨ sgnQ c = 0 ∨ sgnQ c = 1 := by
  unfold sgnQ
  split
  · exact .inl rfl
  · split
    · exact .inr (.inl rfl)
    · exact .inr (.inr rfl)
theorem Sm_sgn (c : Rat) : Sm 1 (sgnQ c) := by rcases sgn_case c with h | h | h <;> rw [h] <;> decide +kernel
theorem szQ_ne {k : Int} {c : Rat} (h : c ≠ 0) : szQ k c ≠ 0 := by
  unfold szQ
  split
  · grind
  · exact h
theorem Sm_sz {k : Int} {c : Rat} {m : Nat} (h : Sm m c) : Sm m (szQ k c) := by
  unfold szQ
  split
  · exact Sm_neg h
  · exact h
theorem size_of {k : Int} {x : Rat × Int} {r : QP} {d : Rat} (h : Sm 64 x.1) : sizeF k (ofP ⟨x :: r, d⟩) = ofQ (szQ k x.1) := by
  unfold sizeF ofP szQ
  simp only [List.map_cons, ofA]
  rw [signF_num h, negF_num h]
  by_cases h1 : x.1 < 0 ∧ k ≠ 3
  · rw [if_pos h1, if_pos ⟨cmpQ_neg_iff.2 h1.1, h1.2⟩]
  · rw [if_neg h1, if_neg (fun h => h1 ⟨cmpQ_neg_iff.1 h.1, h.2⟩)]
theorem norm_is {k : Int} {P : Qo} {m : Nat} (h : P.Is m) (hm : 1 ≤ m) : (normQ k P).Is (2 * m + 1) := by
  unfold normQ
  split
  · exact ⟨trivial, fun x hx => (by cases hx), Sm_mono (Sm_sgn _) (by omega)⟩
  · rename_i x r hx
    have h0 : x.1 ≠ 0 := by have := h.ok; rw [hx] at this; exact this.2.1
    have hs : Sm m x.1 := h.sp x (by rw [hx]; simp)
    exact (scaleQ_is h (Sm_div sm1 (Sm_sz hs) (szQ_ne h0))).mono (by omega)
/-- What is made of a sum. -/
theorem make_of {k : Int} {P : Qo} {m : Nat} (h : P.Is m) (hm : 1 ≤ m ∧ 2 * m + 1 ≤ 64) (hk : isSum (k3 k) = true) : makeAt k (ofP P) = (atQ (k3 k) (normQ (k3 k) P), decide (k = 4), 0) := by
  unfold makeAt
  rw [hk, ok_ofP (h.mono (by omega))]
  obtain ⟨ps, d⟩ := P
  cases ps with
  | nil =>
    simp only [Bool.and_self, if_true, ofP, List.map_nil, normQ, atQ]
    rw [signF_num (Sm_mono h.sc (by omega)), sgn_of]
  | cons x r =>
    have h0 : x.1 ≠ 0 := h.ok.2.1
    have hs : Sm m x.1 := h.sp x (by simp)
    have hz := Sm_sz (k := k3 k) hs
    have hz0 := szQ_ne (k := k3 k) h0
    have hd : Sm (1 + m) (1 / szQ (k3 k) x.1) := Sm_div sm1 hz hz0
    rw [size_of (Sm_mono hs (by omega)), quoF_num (Sm_mono sm1 (by decide)) (Sm_mono hz (by omega)) hz0, heldQ_ok (Sm_mono hd (by omega))]
    simp only [if_true, Bool.and_self]
    rw [scalePo_of h hd (by omega)]
    simp only [if_true, ofP, List.map_cons, normQ, atQ]
/-! ### Sums twice multiplied -/
theorem mulQ_mulQ (a b : Rat) (l : QP) : mulQ b (mulQ a l) = mulQ (a * b) l := by
  unfold mulQ
  rw [List.map_map]
  refine List.map_congr_left fun x _ => ?_
  show (x.1 * a * b, x.2) = (x.1 * (a * b), x.2)
  rw [Rat.mul_assoc]
theorem scaleQ_scaleQ {a b : Rat} (ha : a ≠ 0) (hb : b ≠ 0) (P : Qo) : scaleQ (scaleQ P a) b = scaleQ P (a * b) := by
  have hab : a * b ≠ 0 := fun e => by rcases Rat.mul_eq_zero.1 e with e | e <;> contradiction
  unfold scaleQ
  rw [if_neg ha, if_neg hb, if_neg hab, mulQ_mulQ, Rat.mul_assoc]
theorem scaleQ_one (P : Qo) : scaleQ P 1 = P := by
  unfold scaleQ
  rw [if_neg (by decide), Rat.mul_one]
  have : mulQ 1 P.ps = P.ps := by
    unfold mulQ
    rw [show (fun x : Rat × Int => (x.1 * 1, x.2)) = id from by funext x; simp [Rat.mul_one]]
    rw [List.map_id]
  rw [this]
theorem scaleQ_neg (P : Qo) : scaleQ (scaleQ P (-1)) (-1) = P := by
  rw [scaleQ_scaleQ (by decide) (by decide), show (-1 : Rat) * -1 = 1 by decide +kernel, scaleQ_one]
/-! ### What is made is made once for all -/
theorem norm_can {k : Int} {P : Qo} {m : Nat} (h : P.Is m) : Can k (normQ k P) := by
  unfold normQ
  split
  · exact sgn_case _
  · rename_i x r hx
    have h0 : x.1 ≠ 0 := by have := h.ok; rw [hx] at this; exact this.2.1
    have hz0 := szQ_ne (k := k) h0
    have hz1 : 1 / szQ k x.1 ≠ 0 := by grind
    unfold Can scaleQ
    rw [if_neg hz1, hx]
    simp only [mulQ, List.map_cons]
    unfold szQ at hz0 ⊢
    split
    · rename_i hc
      exact .inr ⟨hc.2, by grind⟩
    · exact .inl (by grind)
theorem norm_self {k : Int} {N : Qo} (h : Can k N) : normQ k N = N := by
  obtain ⟨ps, d⟩ := N
  cases ps with
  | nil =>
    unfold normQ
    simp only [Can] at h
    have : sgnQ d = d := by rcases h with rfl | rfl | rfl <;> decide +kernel
    simp only
    rw [this]
  | cons x r =>
    simp only [Can] at h
    unfold normQ szQ
    simp only
    rcases h with e | ⟨hk, e⟩
    · rw [e, if_neg (fun h => absurd h.1 (by decide)), show (1 : Rat) / 1 = 1 by decide +kernel, scaleQ_one]
    · rw [e, if_pos ⟨by decide, hk⟩, show (1 : Rat) / - -1 = 1 by decide +kernel, scaleQ_one]
theorem can_ok {k : Int} {N : Qo} (hk : isSum k = true) (h : Can k N) (hN : N.Is 64) : (atQ k N).ok = true := by
  unfold At.ok atQ
  rw [if_pos hk]
  simp only [decide_eq_true_eq, Bool.and_eq_true, true_and]
  refine ⟨ok_ofP hN, ?_⟩
  obtain ⟨ps, d⟩ := N
  cases ps with
  | nil => rfl
  | cons x r =>
    simp only [Can] at h
    show unitF (ofQ x.1) (decide (k ≠ 3)) = true
    unfold unitF
    rcases h with e | ⟨hk3, e⟩
    · rw [e, decide_eq_true (rfl : ofQ 1 = ofQ 1)]; rfl
    · rw [e, decide_eq_true hk3, decide_eq_true (rfl : ofQ (-1) = ofQ (-1)), Bool.and_self, Bool.or_true]
theorem can_neg {k j : Int} {N : Qo} (hj : j ≠ 3) (h : Can k N) : Can j (scaleQ N (-1)) := by
  obtain ⟨ps, d⟩ := N
  unfold Can scaleQ
  rw [if_neg (by decide)]
  cases ps with
  | nil =>
    simp only [Can] at h
    simp only [mulQ, List.map_nil]
    rcases h with rfl | rfl | rfl <;> decide +kernel
  | cons x r =>
    simp only [Can] at h
    simp only [mulQ, List.map_cons]
    rcases h with e | ⟨_, e⟩
    · rw [e]; exact .inr ⟨hj, by decide +kernel⟩
    · rw [e]; exact .inl (by decide +kernel)
theorem not_of {k : Int} {N : Qo} {m : Nat} (hk : k = 1 ∨ k = 2) (h : Can k N) (hN : N.Is m) (hm : 2 * m + 3 ≤ 64) : notAt (atQ k N) = (atQ (3 - k) (scaleQ N (-1)), true) := by
  have hs : isSum k = true := by rcases hk with rfl | rfl <;> rfl
  have hs2 : isSum (3 - k) = true ∧ k3 (3 - k) = 3 - k ∧ 3 - k ≠ 3 := by rcases hk with rfl | rfl <;> decide
  have hN2 : (scaleQ N (-1)).Is (m + 1) := scaleQ_is hN smm1
  unfold notAt
  rw [can_ok hs h (hN.mono (by omega)), show (decide ((atQ k N).k = 1) || decide ((atQ k N).k = 2)) = true from by rcases hk with rfl | rfl <;> rfl]
  show (if _ then (if (scalePo (ofP N) (ofQ (-1))).2 = 0 then ((makeAt (3 - k) (scalePo (ofP N) (ofQ (-1))).1).1, decide ((makeAt (3 - k) (scalePo (ofP N) (ofQ (-1))).1).2.2 = 0)) else (zAt, false)) else _) = _
  rw [scalePo_of hN smm1 (by omega)]
  simp only [Bool.and_self, if_true]
  rw [make_of hN2 (by omega) (by rw [hs2.2.1]; exact hs2.1), hs2.2.1, norm_self (can_neg hs2.2.2 h)]
  rfl
theorem not_three (N : Qo) : notAt (atQ 3 N) = (zAt, false) := by
  unfold notAt
  rw [show (decide ((atQ 3 N).k = 1) || decide ((atQ 3 N).k = 2)) = false from rfl, Bool.and_false]
  rfl
end Go.Proofs.YtepfpgnjpkcgmaaGreat

/-
  law9: awake.
-/
namespace Go.Proofs.YtepfpgnjpkcgmaaGreat
open Go Go.Abs Go.Limbs
variable {base : Prot}
set_option maxRecDepth 20000
attribute [local irreducible] vc
attribute [local simp] pureS touchV freezeL fuel shiftV u64 au
/-! ### What awake calls -/
def sum9 (a b : Int) : Qo := ⟨[(Rat.divInt a 1, 3)], Rat.divInt b 1⟩
def sSum9 : List PVal → Option PVal
  | [.int .i64 a, .int .i64 b] => if (-1000 ≤ a ∧ a ≤ 1000) ∧ (-1000 ≤ b ∧ b ≤ 1000) then some (ofP (sum9 a b)).enc else none
  | _ => none
def Tsm9 : Tab := Tab.none.with 82 (pureS sQOf)
theorem Tsm9_ok : TabOk Tryz.prog base Tsm9 := Tab.with_ok Tab.none_ok rofR_ok
theorem Tsm9_mu (f : FuncId) (a : List AVal) (H : Heap) : Tsm9.mu f a H = none := (rfl)
theorem Tsm9_fns : Tsm9.fn 82 = (pureS sQOf) := (rfl)
theorem sum9_ok : FnOk Tryz.prog base 105 (pureS sSum9) := by
  refine pure_of_vc hmix Tsm9_ok globNone low105 fun args z hs hf => ?_
  unfold sSum9 at hs
  split at hs
  case h_2 => cases hs
  rename_i a b
  split at hs
  case isFalse => cases hs
  rename_i hab
  cases hs
  refine ⟨by simp [lf105], ?_⟩
  have o1 := ofR (n := a) (d := 1) ⟨hab.1, by decide⟩
  have o2 := ofR (n := b) (d := 1) ⟨hab.2, by decide⟩
  simp only [enc_ofP, sum9, List.map_cons, List.map_nil]
  obtain ⟨x, hx⟩ : ∃ x, x = ofQ (Rat.divInt a 1) := ⟨_, rfl⟩
  obtain ⟨y, hy⟩ : ∃ x, x = ofQ (Rat.divInt b 1) := ⟨_, rfl⟩
  rw [← hx] at o1 ⊢
  rw [← hy] at o2 ⊢
  simp only [Fr.enc] at o1 o2 ⊢
  simp [lf105, o1, o2, fillS, Tsm9_mu, Tsm9_fns]
def sEqual9 : List PVal → Option PVal
  | [.int .i64 a, .int .i64 b] => if a = 5 ∧ b = 2 then some (.tup [(At.mk 5 zPo 2 5).enc, .int .i64 0]) else if a = 5 ∧ b = 5 then some (.tup [zAt.enc, .int .i64 1]) else none
  | _ => none
theorem equal9_ok : FnOk Tryz.prog base 106 (pureS sEqual9) := by
  refine pure_of_vc hmix Tab.none_ok globNone low106 fun args z hs hf => ?_
  unfold sEqual9 at hs
  split at hs
  case h_2 => cases hs
  rename_i a b
  refine ⟨by simp [lf106], ?_⟩
  split at hs
  · rename_i h
    obtain ⟨rfl, rfl⟩ := h
    cases hs
    simp [lf106, At.enc, zPo, zF]
  · split at hs
    case isFalse => cases hs
    rename_i h
    obtain ⟨rfl, rfl⟩ := h
    cases hs
    simp [lf106, At.enc, zAt, zPo, zF]
def sBool9 : List PVal → Option PVal
  | [.int .i64 a] => if 0 ≤ a then some (.tup [(At.mk 6 zPo a 0).enc, .int .i64 0]) else none
  | _ => none
theorem bool9_ok : FnOk Tryz.prog base 107 (pureS sBool9) := by
  refine pure_of_vc hmix Tab.none_ok globNone low107 fun args z hs hf => ?_
  unfold sBool9 at hs
  split at hs
  case h_2 => cases hs
  rename_i a
  refine ⟨by simp [lf107], ?_⟩
  split at hs
  case isFalse => cases hs
  rename_i h
  cases hs
  have h' : ¬ a < 0 := by omega
  simp [lf107, h', At.enc, zPo, zF]
def Taw9 : Tab := ((((((((((Tab.none.with 105 (pureS sSum9)).with 54 (pureS (ki makeP))).with 38 (pureS (h1s notP))).with 106 (pureS sEqual9)).with 107 (pureS sBool9)).with 82 (pureS sQOf)).with 40 (pureS (h1 trivP))).with 42 (pureS (sHolds L9))).with 28 (pureS (g2 samePo))).with 46 (pureS (h1 okAt))).with 49 (pureS (h2 sameAt))
theorem Taw9_ok : TabOk Tryz.prog base Taw9 := Tab.with_ok (Tab.with_ok (Tab.with_ok (Tab.with_ok (Tab.with_ok (Tab.with_ok (Tab.with_ok (Tab.with_ok (Tab.with_ok (Tab.with_ok (Tab.with_ok Tab.none_ok sum9_ok) amake_ok) anot_ok) equal9_ok) bool9_ok) rofR_ok) atriv_ok) holds9_ok) rpsame_ok) avalid_ok) asame_ok
theorem Taw9_mu (f : FuncId) (a : List AVal) (H : Heap) : Taw9.mu f a H = none := (rfl)
theorem Taw9_fns : Taw9.fn 105 = (pureS sSum9) ∧ Taw9.fn 54 = (pureS (ki makeP)) ∧ Taw9.fn 38 = (pureS (h1s notP)) ∧ Taw9.fn 106 = (pureS sEqual9) ∧ Taw9.fn 107 = (pureS sBool9) ∧ Taw9.fn 82 = (pureS sQOf) ∧ Taw9.fn 40 = (pureS (h1 trivP)) ∧ Taw9.fn 42 = (pureS (sHolds L9)) ∧ Taw9.fn 28 = (pureS (g2 samePo)) ∧ Taw9.fn 46 = (pureS (h1 okAt)) ∧ Taw9.fn 49 = (pureS (h2 sameAt)) := ⟨rfl, rfl, rfl, rfl, rfl, rfl, rfl, rfl, rfl, rfl, rfl⟩
def q12 : Qo := ⟨[(1, 3)], -2⟩
def qm2 : Qo := ⟨[(-1, 3)], 2⟩
theorem is3 {a b : Rat} (ha : Sm 1 a) (h0 : a ≠ 0) (hb : Sm 1 b) : (⟨[(a, 3)], b⟩ : Qo).Is 1 := ⟨⟨by show (-1 : Int) < 3; decide, h0, trivial⟩, fun x hx => by
  simp only [List.mem_cons, List.not_mem_nil, or_false] at hx
  subst hx; exact ha, hb⟩
theorem aw9_m1 : makeAt 1 (ofP (sum9 2 (-4))) = (atQ 1 q12, false, 0) := by
  rw [make_of (P := sum9 2 (-4)) (m := 1) (is3 (by decide +kernel) (by decide +kernel) (by decide +kernel)) (by decide) rfl]
  rw [show normQ (k3 1) (sum9 2 (-4)) = q12 from by
    show scaleQ _ (1 / szQ 1 (Rat.divInt 2 1)) = _
    rw [show 1 / szQ 1 (Rat.divInt 2 1) = 1 / 2 by decide +kernel]
    unfold scaleQ sum9 mulQ q12
    rw [if_neg (by decide +kernel)]
    simp only [List.map_cons, List.map_nil]
    rw [show Rat.divInt 2 1 * (1 / 2) = 1 by decide +kernel, show Rat.divInt (-4) 1 * (1 / 2) = -2 by decide +kernel]]
  rfl
theorem aw9_m4 : makeAt 4 (ofP (sum9 (-2) 4)) = (atQ 3 q12, true, 0) := by
  rw [make_of (P := sum9 (-2) 4) (m := 1) (is3 (by decide +kernel) (by decide +kernel) (by decide +kernel)) (by decide) rfl]
  rw [show normQ (k3 4) (sum9 (-2) 4) = q12 from by
    show scaleQ _ (1 / szQ 3 (Rat.divInt (-2) 1)) = _
    rw [show 1 / szQ 3 (Rat.divInt (-2) 1) = -1 / 2 by decide +kernel]
    unfold scaleQ sum9 mulQ q12
    rw [if_neg (by decide +kernel)]
    simp only [List.map_cons, List.map_nil]
    rw [show Rat.divInt (-2) 1 * (-1 / 2) = 1 by decide +kernel, show Rat.divInt 4 1 * (-1 / 2) = -2 by decide +kernel]]
  rfl
theorem q12_is : q12.Is 1 := is3 (by decide +kernel) (by decide +kernel) (by decide +kernel)
theorem q12_can (k : Int) : Can k q12 := .inl rfl
theorem aw9_not : notAt (atQ 1 q12) = (atQ 2 qm2, true) := by
  rw [not_of (m := 1) (.inl rfl) (q12_can 1) q12_is (by decide)]
  rw [show scaleQ q12 (-1) = qm2 from by
    unfold scaleQ q12 qm2 mulQ
    rw [if_neg (by decide +kernel)]
    simp only [List.map_cons, List.map_nil]
    rw [show (1 : Rat) * -1 = -1 by decide +kernel, show (-2 : Rat) * -1 = 2 by decide +kernel]]
  rfl
theorem aw9_m2 : makeAt 2 (ofP ⟨[], -5⟩) = (atQ 2 ⟨[], -1⟩, false, 0) := by
  rw [make_of (P := ⟨[], -5⟩) (m := 1) ⟨trivial, fun x hx => (by cases hx), by decide +kernel⟩ (by decide) rfl]
  rw [show normQ (k3 2) ⟨[], -5⟩ = ⟨[], -1⟩ from by
    show (⟨[], sgnQ (-5)⟩ : Qo) = _
    rw [show sgnQ (-5) = -1 by decide +kernel]]
  rfl
theorem aw9_triv : triv (atQ 2 ⟨[], -1⟩) = (true, true) := by
  unfold triv
  rw [can_ok (k := 2) (N := ⟨[], -1⟩) rfl (.inl rfl) ⟨trivial, fun x hx => (by cases hx), by decide +kernel⟩]
  show (if _ then (soF 2 (signF (ofQ (-1))), true) else _) = _
  rw [signF_num (by decide +kernel), show soF 2 (cmpQ (-1) 0) = true by decide +kernel]
  rfl
theorem aw9_holds : holdsAt (fun _ => ofQ 2) (atQ 1 q12) = (true, 0) := by
  unfold holdsAt
  rw [can_ok (k := 1) rfl (q12_can 1) (q12_is.mono (by decide)), show isSum (atQ 1 q12).k = true from rfl]
  have hv : valuePo (fun _ => ofQ 2) (atQ 1 q12).p = (ofQ 0, 0) := by
    show valuePo (fun _ => ofQ 2) (ofP q12) = _
    unfold valuePo
    rw [ok_ofP (q12_is.mono (by decide))]
    have ha : ((ofP q12).ps.all fun x => (ofQ 2).ok) = true := by
      show ((ofQ 2).ok && true) = true
      rw [ok_ofQ (by decide +kernel : Sm 64 (2 : Rat))]
      rfl
    rw [ha]
    simp only [Bool.and_self, if_true]
    show sumF _ [⟨ofQ 1, 3⟩] (ofQ (-2)) = _
    have m1 : mulF (ofQ 1) (ofQ 2) = (ofQ 2, 0) := mul_lit (by decide +kernel) (by decide +kernel) (by decide +kernel) (by decide +kernel)
    have a1 : addF (ofQ (-2)) (ofQ 2) = (ofQ 0, 0) := add_lit (by decide +kernel) (by decide +kernel) (by decide +kernel) (by decide +kernel)
    simp only [sumF, m1, a1, if_true]
  rw [hv]
  simp only [Bool.and_self, if_true]
  rw [signF_num (by decide +kernel), show soF (atQ 1 q12).k (cmpQ 0 0) = true from by decide +kernel]
  rfl
theorem aw9_bad : (At.mk 1 (ofP (sum9 2 1)) 0 0).ok = false := by
  show (if isSum 1 = true then decide ((0 : Int) = 0) && (decide ((0 : Int) = 0) && ((ofP (sum9 2 1)).ok && headU 1 (ofP (sum9 2 1)).ps)) else _) = false
  rw [if_pos (show isSum 1 = true from rfl)]
  have : headU 1 (ofP (sum9 2 1)).ps = false := by
    show unitF (ofQ (Rat.divInt 2 1)) (decide ((1 : Int) ≠ 3)) = false
    unfold unitF
    rw [decide_eq_false (fun e => absurd (ofQ_inj e) (by decide +kernel)), decide_eq_false (fun e => absurd (ofQ_inj e) (by decide +kernel))]
    rfl
  rw [this]
  simp
theorem sum9_1m2 : sum9 1 (-2) = q12 := by
  unfold sum9 q12
  rw [show Rat.divInt 1 1 = 1 by decide +kernel, show Rat.divInt (-2) 1 = -2 by decide +kernel]
theorem sum9_m12 : sum9 (-1) 2 = qm2 := by
  unfold sum9 qm2
  rw [show Rat.divInt (-1) 1 = -1 by decide +kernel, show Rat.divInt 2 1 = 2 by decide +kernel]
set_option maxHeartbeats 2000000 in
theorem awake9_ok : FnOk Tryz.prog base 37 (pureS sAwk) := by
  refine pure_of_vcB hmix Taw9_ok globNone low37 fun args z hs hf => ?_
  unfold sAwk at hs
  split at hs
  case h_2 => cases hs
  cases hs
  refine ⟨by simp [lf37], ?_⟩
  have fw : ∀ q : Qo, q.ps.length ≤ 1 → (ofP q).few = true := fun q h => decide_eq_true (by unfold ofP; simp; omega)
  have s1 : sSum9 [.int .i64 2, .int .i64 (-4)] = some (ofP (sum9 2 (-4))).enc := rfl
  have s2 : sSum9 [.int .i64 (-2), .int .i64 4] = some (ofP (sum9 (-2) 4)).enc := rfl
  have s3 : sSum9 [.int .i64 1, .int .i64 (-2)] = some (ofP q12).enc := by rw [← sum9_1m2]; rfl
  have s4 : sSum9 [.int .i64 (-1), .int .i64 2] = some (ofP qm2).enc := by rw [← sum9_m12]; rfl
  have s5 : sSum9 [.int .i64 2, .int .i64 1] = some (ofP (sum9 2 1)).enc := rfl
  have m1 : ki makeP [.int .i64 1, (ofP (sum9 2 (-4))).enc] = some (.tup [(atQ 1 q12).enc, .bool false, .int .i64 0]) := by rw [ki_at (wf_ofP _) (fw _ (by decide))]; unfold makeP tripAt; rw [aw9_m1]; rfl
  have m4 : ki makeP [.int .i64 4, (ofP (sum9 (-2) 4)).enc] = some (.tup [(atQ 3 q12).enc, .bool true, .int .i64 0]) := by rw [ki_at (wf_ofP _) (fw _ (by decide))]; unfold makeP tripAt; rw [aw9_m4]; rfl
  have m2 : ki makeP [.int .i64 2, (ofP ⟨[], -5⟩).enc] = some (.tup [(atQ 2 ⟨[], -1⟩).enc, .bool false, .int .i64 0]) := by rw [ki_at (wf_ofP _) (fw _ (by decide))]; unfold makeP tripAt; rw [aw9_m2]; rfl
  have n1 : h1s notP [(atQ 1 q12).enc] = some (.tup [(atQ 2 qm2).enc, .bool true]) := by rw [h1s_at (wf_ofP _) (fw _ (by decide))]; unfold notP; rw [aw9_not]
  have E1 : sEqual9 [.int .i64 5, .int .i64 2] = some (.tup [(At.mk 5 zPo 2 5).enc, .int .i64 0]) := rfl
  have E2 : sEqual9 [.int .i64 5, .int .i64 5] = some (.tup [zAt.enc, .int .i64 1]) := rfl
  have B1 : sBool9 [.int .i64 7] = some (.tup [(At.mk 6 zPo 7 0).enc, .int .i64 0]) := rfl
  have o5 := oL (n := -5) (d := 1) (q := -5) (by decide) (by decide +kernel)
  have t1 : h1 trivP [(atQ 2 ⟨[], -1⟩).enc] = some (.tup [.bool true, .bool true]) := by rw [h1_at (wf_ofP _)]; unfold trivP; rw [aw9_triv]
  have H1 : sHolds L9 [(atQ 1 q12).enc, .clo 108 []] = some (.tup [.bool true, .int .i64 0]) := by
    rw [sHolds_at (lk := fun _ => ofQ 2) (wf_ofP _) (fw _ (by decide)) rfl, aw9_holds]; rfl
  have g1 := samePo_self (wf_ofP q12)
  have g2 := samePo_self (wf_ofP qm2)
  have k1 : h1 okAt [(atQ 1 q12).enc] = some (.bool true) := by rw [h1_at (wf_ofP _)]; unfold okAt; rw [can_ok (k := 1) rfl (q12_can 1) (q12_is.mono (by decide))]
  have k2 : h1 okAt [(At.mk 1 (ofP (sum9 2 1)) 0 0).enc] = some (.bool false) := by rw [h1_at (wf_ofP _)]; unfold okAt; rw [aw9_bad]
  have a1 : h2 sameAt [(atQ 1 q12).enc, (atQ 1 q12).enc] = some (.bool true) := by rw [h2_at (wf_ofP _) (wf_ofP _)]; unfold sameAt; rw [decide_eq_true rfl]
  have a2 : h2 sameAt [(atQ 1 q12).enc, (atQ 3 q12).enc] = some (.bool false) := by rw [h2_at (wf_ofP _) (wf_ofP _)]; unfold sameAt; rw [decide_eq_false (fun e => absurd (congrArg At.k e) (by decide))]
  simp only [atQ] at m1 m4 m2 n1 t1 H1 k1 k2 a1 a2
  rw [show (ofP ⟨[], -5⟩).enc = .agg [.lst [], .bool (ofQ (-5)).s, .lst ((ofQ (-5)).n.map u64), .lst ((ofQ (-5)).d.map u64)] from by rw [enc_ofP]; rfl] at m2
  obtain ⟨x5, e5⟩ : ∃ x, x = ofQ (-5) := ⟨_, rfl⟩
  obtain ⟨A, eA⟩ : ∃ x, x = ofP q12 := ⟨_, rfl⟩
  obtain ⟨M, eM⟩ : ∃ x, x = ofP qm2 := ⟨_, rfl⟩
  obtain ⟨C, eC⟩ : ∃ x, x = ofP ⟨[], -1⟩ := ⟨_, rfl⟩
  obtain ⟨S1, eS1⟩ : ∃ x, x = ofP (sum9 2 (-4)) := ⟨_, rfl⟩
  obtain ⟨S2, eS2⟩ : ∃ x, x = ofP (sum9 (-2) 4) := ⟨_, rfl⟩
  obtain ⟨S3, eS3⟩ : ∃ x, x = ofP (sum9 2 1) := ⟨_, rfl⟩
  simp only [← e5, ← eA, ← eM, ← eC, ← eS1, ← eS2, ← eS3] at s1 s2 s3 s4 s5 m1 m4 m2 n1 o5 t1 H1 g1 g2 k1 k2 a1 a2
  simp only [At.enc, Po.enc, Fr.enc, zAt, zPo, zF, List.map_nil] at s1 s2 s3 s4 s5 m1 m4 m2 n1 E1 E2 B1 o5 t1 H1 g1 g2 k1 k2 a1 a2
  clear e5 eA eM eC eS1 eS2 eS3 fw
  simp [lf37, s1, s2, s3, s4, s5, m1, m4, m2, n1, E1, E2, B1, o5, t1, H1, g1, g2, k1, k2, a1, a2, mkClo, fillS, freeze1, Taw9_mu, Taw9_fns]
end Go.Proofs.YtepfpgnjpkcgmaaGreat
