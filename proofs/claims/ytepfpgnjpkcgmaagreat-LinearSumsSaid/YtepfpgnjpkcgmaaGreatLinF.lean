/-
  What is told of ids, as law8 hands it on. No conditions beyond the lemmas' own hypotheses.
-/
import Derived.Test.YtepfpgnjpkcgmaaGreatLinE
set_option linter.unusedSimpArgs false
set_option linter.unnecessarySimpa false
set_option linter.unusedVariables false
set_option linter.constructorNameAsVariable false

/-
  law8: what is told of ids.
-/
namespace Go.Proofs.YtepfpgnjpkcgmaaGreat
open Go Go.Abs Go.Limbs
variable {base : Prot}
set_option maxRecDepth 20000
attribute [local irreducible] vc
attribute [local simp] pureS touchV freezeL fuel shiftV u64 au
def fewB (l : List Bd) : Bool := (l.take 20).all (fun b => fewF1 b.x) && decide (l.length ≤ 12)
theorem fewB_len {l : List Bd} (h : fewB l = true) : l.length ≤ 12 := by
  unfold fewB at h
  rw [Bool.and_eq_true] at h
  exact of_decide_eq_true h.2
/-! ### What is told of ids, as the document's -/
def sBinds8 : List PVal → Option PVal
  | [.lst vs] => match decBs vs with | some l => if l.length ≤ 1000000 then some (.lst vs) else none | none => none
  | _ => none
theorem sBinds8_at {l : List Bd} (h : wfB l) (hl : l.length ≤ 1000000) : sBinds8 [.lst (l.map Bd.enc)] = some (.lst (l.map Bd.enc)) := by simp only [sBinds8, decBs_enc h, if_pos hl]
theorem binds8_ok : FnOk Tryz.prog base 26 (pureS sBinds8) := by
  refine pure_of_vc hmix Tab.none_ok globNone low26 fun args z hs hf => ?_
  unfold sBinds8 at hs
  split at hs
  case h_2 => cases hs
  split at hs
  case h_2 => cases hs
  rename_i l hl
  obtain ⟨rfl, wl⟩ := decBs_some hl
  split at hs
  case isFalse => cases hs
  rename_i hlen
  cases hs
  have hm := maxLen_ge
  refine ⟨by simp [lf26], ?_⟩
  simp [lf26]
  simp only [lf26_B0, vc_block]
  refine loop_ind (fun fr H => ∃ i : Nat, i ≤ l.length ∧ Grown 0 4 104 ((l.take i).map Bd.enc) (fr 3) H ∧ fr 0 = .p (.lst (l.map Bd.enc)) ∧ fr 4 = .p (.int .i64 i)) (fun fr _ => l.length - ivar (fr 4))
    ⟨0, by omega, by simp; exact .nil _ _ _ _, by simp, by simp⟩ ?_
  rintro fr H ⟨i, hi, hg, f0, f4⟩
  by_cases h1 : i < l.length
  · obtain ⟨b, hb⟩ : ∃ b, l[i]? = some b := ⟨_, List.getElem?_eq_getElem h1⟩
    have hbe := getE hb
    have hw := wrap_succ (i := i) (by omega)
    have htk := take_succ_get hb
    obtain ⟨k', v', ex', happ, hg'⟩ := (hg.more [⟨4, 0, false, [.p b.enc], 104⟩]).app (pre := []) rfl (y := b.enc) rfl rfl (by omega) (bytes := 64) (by simp; omega) (by simp; omega)
    simp only [Bd.enc, List.nil_append] at happ
    have hnew : (l.take (i + 1)).map Bd.enc = (l.take i).map Bd.enc ++ [b.enc] := by rw [htk, List.map_append]; rfl
    simp [f0, f4, h1, hbe, Bd.enc]
    rw [vc_regionW]
    refine ⟨[], ?_⟩
    simp [f0, f4, h1, hbe, Bd.enc, fillS, -appV, happ, hw, ivar]
    exact ⟨⟨i + 1, by omega, by rw [← List.map_take, hnew]; simpa [Nat.min_eq_left hi] using hg', by omega⟩, by omega⟩
  · have hil : i = l.length := by omega
    rw [hil, List.take_length] at hg
    obtain ⟨x3, h3⟩ : ∃ x, x = fr 3 := ⟨_, rfl⟩
    rw [← h3] at hg
    rcases hg with ⟨he, rfl⟩ | ⟨j, v, rfl, hj⟩
    · have : l = [] := by simpa using he
      subst this
      have hi0 : i = 0 := by simpa using hil
      subst hi0
      simp [f0, f4, ← h3]
    · rw [Nat.zero_add] at h3
      simp [f0, f4, h1, ← h3, hj, mapO_pe, take_map]
def sFewB8 : List PVal → Option PVal
  | [.lst vs] => match decBs vs with | some l => some (.bool (fewB l)) | none => none
  | _ => none
theorem sFewB8_at {l : List Bd} (h : wfB l) : sFewB8 [.lst (l.map Bd.enc)] = some (.bool (fewB l)) := by simp only [sFewB8, decBs_enc h]
theorem fewB8_ok : FnOk Tryz.prog base 15 (pureS sFewB8) := by
  refine pure_of_vc hmix Tap_ok globNone low15 fun args z hs hf => ?_
  unfold sFewB8 at hs
  split at hs
  case h_2 => cases hs
  split at hs
  case h_2 => cases hs
  rename_i l hl
  obtain ⟨rfl, wl⟩ := decBs_some hl
  cases hs
  refine ⟨by simp [lf15], ?_⟩
  obtain ⟨r, hr⟩ : ∃ r, r = fewB l := ⟨_, rfl⟩
  rw [← hr]
  simp [lf15]
  simp only [lf15_B0, vc_block]
  refine loop_ind (fun fr H => ∃ i : Nat, H = [] ∧ i ≤ l.length ∧ i ≤ 20 ∧ (l.take i).all (fun b => fewF1 b.x) = true ∧ fr 0 = .p (.lst (l.map Bd.enc)) ∧ fr 3 = .p (.int .i64 i)) (fun fr _ => 20 - ivar (fr 3)) ⟨0, rfl, by omega, by omega, by simp, by simp, by simp⟩ ?_
  rintro fr H ⟨i, rfl, hi, hi20, hall, f0, f3⟩
  by_cases hlt : i < l.length ∧ i < 20
  · obtain ⟨h1, h2⟩ := hlt
    have h2I : (i : Int) < 20 := by omega
    obtain ⟨b, hb⟩ : ∃ b, l[i]? = some b := ⟨_, List.getElem?_eq_getElem h1⟩
    have hbe := getE hb
    have hw := wrap_succ (i := i) (by omega)
    have htk := take_succ_get hb
    have hcx : f1 fewP1 [b.x.enc] = some (.bool (fewF1 b.x)) := f1_at (wl b (List.mem_of_getElem? hb))
    simp only [Fr.enc] at hcx
    cases hf1 : fewF1 b.x with
    | false =>
      rw [hf1] at hcx
      have : r = false := by
        rw [hr]
        unfold fewB
        have : (l.take 20).all (fun b => fewF1 b.x) = false := by
          cases h : (l.take 20).all (fun b => fewF1 b.x) with
          | false => rfl
          | true =>
            have := List.all_eq_true.1 h b (List.mem_of_getElem? (show (l.take 20)[i]? = some b by rw [List.getElem?_take, if_pos h2]; exact hb))
            rw [hf1] at this
            cases this
        rw [this]; rfl
      simp [f0, f3, h1, h2I, hbe, Bd.enc, hcx, this, Tap_mu, Tap_fn]
    | true =>
      rw [hf1] at hcx
      simp [f0, f3, h1, h2I, hbe, Bd.enc, hcx, hw, ivar, Tap_mu, Tap_fn]
      exact ⟨⟨i + 1, by omega, by omega, by
        intro x hx
        rw [htk] at hx
        rcases List.mem_append.1 hx with hx | hx
        · exact List.all_eq_true.1 hall x hx
        · rw [List.mem_singleton] at hx; subst hx; exact hf1, by omega⟩, by omega⟩
  · have hall20 : (l.take 20).all (fun b => fewF1 b.x) = true := by
      by_cases h : i = 20
      · rw [← h]; exact hall
      · have : i = l.length := by omega
        rw [List.take_of_length_le (by omega), ← hall, this, List.take_of_length_le (Nat.le_refl _)]
    have hfe : r = decide (l.length ≤ 12) := by rw [hr]; unfold fewB; rw [hall20]; rfl
    rw [hfe]
    by_cases h1 : i < l.length
    · have h2I : ¬ (i : Int) < 20 := by omega
      have h3 : ¬ l.length ≤ 12 := by omega
      have h3I : ¬ (l.length : Int) ≤ 12 := by omega
      simp [f0, f3, h1, h2I, h3, h3I]
    · by_cases h3 : l.length ≤ 12
      · have h3I : (l.length : Int) ≤ 12 := by omega
        simp [f0, f3, h1, h3, h3I]
      · have h3I : ¬ (l.length : Int) ≤ 12 := by omega
        simp [f0, f3, h1, h3, h3I]
def sClo8 : List PVal → Option PVal
  | [.int .i64 i, .cptr [.lst vs]] => match decBs vs with | some l => if l.length ≤ 1000000 then some (lookB l i).enc else none | none => none
  | _ => none
theorem sClo8_at {l : List Bd} {i : Int} (h : wfB l) (hl : l.length ≤ 1000000) : sClo8 [.int .i64 i, .cptr [.lst (l.map Bd.enc)]] = some (lookB l i).enc := by simp only [sClo8, decBs_enc h, if_pos hl]
def Tclo8 : Tab := (Tab.none.with 26 (pureS sBinds8)).with 25 (pureS sLook)
theorem Tclo8_ok : TabOk Tryz.prog base Tclo8 := Tab.with_ok (Tab.with_ok Tab.none_ok binds8_ok) rlook_ok
theorem Tclo8_mu (f : FuncId) (a : List AVal) (H : Heap) : Tclo8.mu f a H = none := (rfl)
theorem Tclo8_fns : Tclo8.fn 26 = (pureS sBinds8) ∧ Tclo8.fn 25 = (pureS sLook) := ⟨rfl, rfl⟩
theorem clo8_ok : FnOk Tryz.prog base 24 (pureS sClo8) := by
  refine pure_of_vc hmix Tclo8_ok globNone low24 fun args z hs hf => ?_
  unfold sClo8 at hs
  split at hs
  case h_2 => cases hs
  rename_i i vs
  split at hs
  case h_2 => cases hs
  rename_i l hl
  obtain ⟨rfl, wl⟩ := decBs_some hl
  split at hs
  case isFalse => cases hs
  rename_i hlen
  cases hs
  refine ⟨by simp [lf24], ?_⟩
  have v1 := sBinds8_at wl hlen
  have v2 := sLook_at (i := i) wl
  simp only [Fr.enc] at v2 ⊢
  simp [lf24, v1, v2, Tclo8_mu, Tclo8_fns]
def Tclo8a : Tab := Tab.none.with 82 (pureS sQOf)
theorem Tclo8a_ok : TabOk Tryz.prog base Tclo8a := Tab.with_ok Tab.none_ok rofR_ok
theorem Tclo8a_mu (f : FuncId) (a : List AVal) (H : Heap) : Tclo8a.mu f a H = none := (rfl)
theorem Tclo8a_fns : Tclo8a.fn 82 = (pureS sQOf) := (rfl)
def sClo8a : List PVal → Option PVal
  | [.int .i64 i] => if -1000 ≤ i ∧ i ≤ 1000 then some (ofQ (Rat.divInt i 1)).enc else none
  | _ => none
theorem clo8a_ok : FnOk Tryz.prog base 84 (pureS sClo8a) := by
  refine pure_of_vc hmix Tclo8a_ok globNone low84 fun args z hs hf => ?_
  unfold sClo8a at hs
  split at hs
  case h_2 => cases hs
  rename_i i
  split at hs
  case isFalse => cases hs
  rename_i hi
  cases hs
  refine ⟨by simp [lf84], ?_⟩
  have o1 := ofR (n := i) (d := 1) ⟨hi, by decide⟩
  obtain ⟨x, hx⟩ : ∃ x, x = ofQ (Rat.divInt i 1) := ⟨_, rfl⟩
  rw [← hx] at o1 ⊢
  simp only [Fr.enc] at o1 ⊢
  simp [lf84, o1, Tclo8a_mu, Tclo8a_fns]
/-- What functions of ids law8 hands on. -/
def L8 : Lk
  | .clo 24 [.cptr [.lst vs]], _ => match decBs vs with | some l => if l.length ≤ 1000000 then some (lookB l) else none | none => none
  | .clo 84 [], p => if (p.ps.all fun x => decide (-1000 ≤ x.t) && decide (x.t ≤ 1000)) = true then some (fun i => ofQ (Rat.divInt i 1)) else none
  | _, _ => none
theorem L8_at {l : List Bd} {p : Po} (h : wfB l) (hl : l.length ≤ 1000000) : L8 (.clo 24 [.cptr [.lst (l.map Bd.enc)]]) p = some (lookB l) := by simp only [L8, decBs_enc h, if_pos hl]
def Tv8 : Tab := ((((((Tab.none.with 30 (pureS (g1 okPo))).with 89 (pureS (f1 boolF))).with 86 (pureS sOwn)).with 90 (pureS (f2 mulP))).with 85 (pureS (f2 addP))).with 24 (pureS sClo8)).with 84 (pureS sClo8a)
theorem Tv8_ok : TabOk Tryz.prog base Tv8 := Tab.with_ok (Tab.with_ok (Tab.with_ok (Tab.with_ok (Tab.with_ok (Tab.with_ok (Tab.with_ok Tab.none_ok lvalid_ok) qvalid_ok) lown_ok) qmul_ok) qadd_ok) clo8_ok) clo8a_ok
theorem Tv8_mu (f : FuncId) (a : List AVal) (H : Heap) : Tv8.mu f a H = none := (rfl)
theorem Tv8_fns : Tv8.fn 30 = (pureS (g1 okPo)) ∧ Tv8.fn 89 = (pureS (f1 boolF)) ∧ Tv8.fn 86 = (pureS sOwn) ∧ Tv8.fn 90 = (pureS (f2 mulP)) ∧ Tv8.fn 85 = (pureS (f2 addP)) ∧ Tv8.fn 24 = (pureS sClo8) ∧ Tv8.fn 84 = (pureS sClo8a) := ⟨rfl, rfl, rfl, rfl, rfl, rfl, rfl⟩
theorem L8_ok : LkOk Tv8 L8 where
  mu := Tv8_mu
  ok c p lk h := by
    unfold L8 at h
    split at h
    · split at h
      · rename_i l hl
        obtain ⟨rfl, wl⟩ := decBs_some hl
        split at h
        · rename_i hlen
          cases h
          refine ⟨_, _, rfl, fun x _ => ⟨wf_lookB wl, ?_⟩⟩
          rw [Tv8_fns.2.2.2.2.2.1, pureS, sClo8_at wl hlen]
        · cases h
      · cases h
    · split at h
      · rename_i hall
        cases h
        refine ⟨_, _, rfl, fun x hx => ⟨wf_ofQ _, ?_⟩⟩
        have := List.all_eq_true.1 hall x hx
        rw [Bool.and_eq_true, decide_eq_true_eq, decide_eq_true_eq] at this
        rw [Tv8_fns.2.2.2.2.2.2, pureS]
        simp only [sClo8a, if_pos this]
      · cases h
    · cases h
theorem value8_ok : FnOk Tryz.prog base 23 (pureS (sValue L8)) := value_ok Tv8_ok ⟨Tv8_fns.1, Tv8_fns.2.1, Tv8_fns.2.2.1, Tv8_fns.2.2.2.1, Tv8_fns.2.2.2.2.1⟩ L8_ok
end Go.Proofs.YtepfpgnjpkcgmaaGreat
