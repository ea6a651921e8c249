/-
  What is told of ids, as law22 hands it on; law22's awake. No conditions beyond the lemmas' own hypotheses.
-/
import Derived.Test.YtepfpgnjpkcgmaaGreatFeasE
import Derived.Test.YtepfpgnjpkcgmaaGreatFeasL
import Derived.Test.YtepfpgnjpkcgmaaGreatAbsThree
set_option linter.unusedSimpArgs false
set_option linter.unnecessarySimpa false
set_option linter.unusedVariables false
set_option linter.constructorNameAsVariable false

/-
 law22: what is told of ids; which sets are looked at.
-/
namespace Go.Proofs.YtepfpgnjpkcgmaaGreat
open Go Go.Abs Go.Limbs
variable {base : Prot}
set_option maxRecDepth 20000
attribute [local irreducible] vc
attribute [local simp] pureS touchV freezeL fuel shiftV u64 au
def sBinds22 : List PVal → Option PVal
 | [.lst vs] => match decBs vs with | some l => if l.length ≤ 1000000 then some (.lst vs) else none | none => none
 | _ => none
theorem sBinds22_at {l : List Bd} (h : wfB l) (hl : l.length ≤ 1000000) : sBinds22 [.lst (l.map Bd.enc)] = some (.lst (l.map Bd.enc)) := by simp only [sBinds22, decBs_enc h, if_pos hl]
theorem binds22_ok : FnOk Tryz.prog base 78 (pureS sBinds22) := by
 refine pure_of_vc hmix Tab.none_ok globNone low78 fun args z hs hf => ?_
 unfold sBinds22 at hs
 split at hs
 case h_2 => cases hs
 split at hs
 case h_2 => cases hs
 rename_i l hl
 obtain ⟨rfl, wl⟩ := decBs_some hl
 split at hs
 case isFalse => cases hs
 rename_i hlen
 cases hs
 have hm := maxLen_ge
 refine ⟨by simp [lf78], ?_⟩
 simp [lf78]
 simp only [lf78_B0, vc_block]
 refine loop_ind (fun fr H => ∃ i : Nat, i ≤ l.length ∧ Grown 0 4 104 ((l.take i).map Bd.enc) (fr 3) H ∧ fr 0 = .p (.lst (l.map Bd.enc)) ∧ fr 4 = .p (.int .i64 i)) (fun fr _ => l.length - ivar (fr 4))
  ⟨0, by omega, by simp; exact .nil _ _ _ _, by simp, by simp⟩ ?_
 rintro fr H ⟨i, hi, hg, f0, f4⟩
 by_cases h1 : i < l.length
 ·obtain ⟨b, hb⟩ : ∃ b, l[i]? = some b := ⟨_, List.getElem?_eq_getElem h1⟩
  have hbe := getE hb
  have hw := wrap_succ (i := i) (by omega)
  have htk := take_succ_get hb
  obtain ⟨k', v', ex', happ, hg'⟩ := (hg.more [⟨4, 0, false, [.p b.enc], 104⟩]).app (pre := []) rfl (y := b.enc) rfl rfl (by omega) (bytes := 64) (by simp; omega) (by simp; omega)
  simp only [Bd.enc, List.nil_append] at happ
  have hnew : (l.take (i + 1)).map Bd.enc = (l.take i).map Bd.enc ++ [b.enc] := by rw [htk, List.map_append]; rfl
  simp [f0, f4, h1, hbe, Bd.enc]
  rw [vc_regionW]
  refine ⟨[], ?_⟩
  simp [f0, f4, h1, hbe, Bd.enc, fillS, -appV, happ, hw, ivar]
  exact ⟨⟨i + 1, by omega, by rw [← List.map_take, hnew]; simpa [Nat.min_eq_left hi] using hg', by omega⟩, by omega⟩
 ·have hil : i = l.length := by omega
  rw [hil, List.take_length] at hg
  obtain ⟨x3, h3⟩ : ∃ x, x = fr 3 := ⟨_, rfl⟩
  rw [← h3] at hg
  rcases hg with ⟨he, rfl⟩ | ⟨j, v, rfl, hj⟩
  ·have : l = [] := by simpa using he
   subst this
   have hi0 : i = 0 := by simpa using hil
   subst hi0
   simp [f0, f4, ← h3]
  ·rw [Nat.zero_add] at h3
   simp [f0, f4, h1, ← h3, hj, mapO_pe, take_map]
def sClo22 : List PVal → Option PVal
 | [.int .i64 i, .cptr [.lst vs]] => match decBs vs with | some l => if l.length ≤ 1000000 then some (lookB l i).enc else none | none => none
 | _ => none
theorem sClo22_at {l : List Bd} {i : Int} (h : wfB l) (hl : l.length ≤ 1000000) : sClo22 [.int .i64 i, .cptr [.lst (l.map Bd.enc)]] = some (lookB l i).enc := by simp only [sClo22, decBs_enc h, if_pos hl]
def Tclo22 : Tab := (Tab.none.with 78 (pureS sBinds22)).with 25 (pureS sLook)
theorem Tclo22_ok : TabOk Tryz.prog base Tclo22 := Tab.with_ok (Tab.with_ok Tab.none_ok binds22_ok) rlook_ok
theorem Tclo22_mu (f : FuncId) (a : List AVal) (H : Heap) : Tclo22.mu f a H = none := (rfl)
theorem Tclo22_fns : Tclo22.fn 78 = (pureS sBinds22) ∧ Tclo22.fn 25 = (pureS sLook) := ⟨rfl, rfl⟩
theorem clo22o_ok : FnOk Tryz.prog base 77 (pureS sClo22) := by
 refine pure_of_vc hmix Tclo22_ok globNone low77 fun args z hs hf => ?_
 unfold sClo22 at hs
 split at hs
 case h_2 => cases hs
 rename_i i vs
 split at hs
 case h_2 => cases hs
 rename_i l hl
 obtain ⟨rfl, wl⟩ := decBs_some hl
 split at hs
 case isFalse => cases hs
 rename_i hlen
 cases hs
 refine ⟨by simp [lf77], ?_⟩
 have v1 := sBinds22_at wl hlen
 have v2 := sLook_at (i := i) wl
 simp only [Fr.enc] at v2 ⊢
 simp [lf77, v1, v2, Tclo22_mu, Tclo22_fns]
theorem clo22s_ok : FnOk Tryz.prog base 80 (pureS sClo22) := by
 refine pure_of_vc hmix Tclo22_ok globNone low80 fun args z hs hf => ?_
 unfold sClo22 at hs
 split at hs
 case h_2 => cases hs
 rename_i i vs
 split at hs
 case h_2 => cases hs
 rename_i l hl
 obtain ⟨rfl, wl⟩ := decBs_some hl
 split at hs
 case isFalse => cases hs
 rename_i hlen
 cases hs
 refine ⟨by simp [lf80], ?_⟩
 have v1 := sBinds22_at wl hlen
 have v2 := sLook_at (i := i) wl
 simp only [Fr.enc] at v2 ⊢
 simp [lf80, v1, v2, Tclo22_mu, Tclo22_fns]
def TcloZ : Tab := Tab.none.with 82 (pureS sQOf)
theorem TcloZ_ok : TabOk Tryz.prog base TcloZ := Tab.with_ok Tab.none_ok rofR_ok
theorem TcloZ_mu (f : FuncId) (a : List AVal) (H : Heap) : TcloZ.mu f a H = none := (rfl)
theorem TcloZ_fns : TcloZ.fn 82 = (pureS sQOf) := (rfl)
def sCloZ : List PVal → Option PVal
 | [.int .i64 _] => some (ofQ 0).enc
 | _ => none
theorem clo22a_ok : FnOk Tryz.prog base 123 (pureS sCloZ) := by
 refine pure_of_vc hmix TcloZ_ok globNone low123 fun args z hs hf => ?_
 unfold sCloZ at hs
 split at hs
 case h_2 => cases hs
 cases hs
 refine ⟨by simp [lf123], ?_⟩
 have o1 := zeroQ_of
 obtain ⟨x, hx⟩ : ∃ x, x = ofQ 0 := ⟨_, rfl⟩
 rw [← hx] at o1 ⊢
 simp only [Fr.enc] at o1 ⊢
 simp [lf123, o1, TcloZ_mu, TcloZ_fns]
theorem clo22b_ok : FnOk Tryz.prog base 124 (pureS sCloZ) := by
 refine pure_of_vc hmix TcloZ_ok globNone low124 fun args z hs hf => ?_
 unfold sCloZ at hs
 split at hs
 case h_2 => cases hs
 cases hs
 refine ⟨by simp [lf124], ?_⟩
 have o1 := zeroQ_of
 obtain ⟨x, hx⟩ : ∃ x, x = ofQ 0 := ⟨_, rfl⟩
 rw [← hx] at o1 ⊢
 simp only [Fr.enc] at o1 ⊢
 simp [lf124, o1, TcloZ_mu, TcloZ_fns]
theorem clo22r_ok : FnOk Tryz.prog base 81 (pureS sCloZ) := by
 refine pure_of_vc hmix TcloZ_ok globNone low81 fun args z hs hf => ?_
 unfold sCloZ at hs
 split at hs
 case h_2 => cases hs
 cases hs
 refine ⟨by simp [lf81], ?_⟩
 have o1 := zeroQ_of
 obtain ⟨x, hx⟩ : ∃ x, x = ofQ 0 := ⟨_, rfl⟩
 rw [← hx] at o1 ⊢
 simp only [Fr.enc] at o1 ⊢
 simp [lf81, o1, TcloZ_mu, TcloZ_fns]
def L22 : Lk
 | .clo 77 [.cptr [.lst vs]], _ => match decBs vs with | some l => if l.length ≤ 1000000 then some (lookB l) else none | none => none
 | .clo 80 [.cptr [.lst vs]], _ => match decBs vs with | some l => if l.length ≤ 1000000 then some (lookB l) else none | none => none
 | .clo 123 [], _ => some (fun _ => ofQ 0)
 | .clo 124 [], _ => some (fun _ => ofQ 0)
 | .clo 81 [], _ => some (fun _ => ofQ 0)
 | _, _ => none
def Tv22 : Tab := (((((((((Tab.none.with 30 (pureS (g1 okPo))).with 89 (pureS (f1 boolF))).with 86 (pureS sOwn)).with 90 (pureS (f2 mulP))).with 85 (pureS (f2 addP))).with 77 (pureS sClo22)).with 80 (pureS sClo22)).with 123 (pureS sCloZ)).with 124 (pureS sCloZ)).with 81 (pureS sCloZ)
theorem Tv22_ok : TabOk Tryz.prog base Tv22 := Tab.with_ok (Tab.with_ok (Tab.with_ok (Tab.with_ok (Tab.with_ok (Tab.with_ok (Tab.with_ok (Tab.with_ok (Tab.with_ok (Tab.with_ok Tab.none_ok lvalid_ok) qvalid_ok) lown_ok) qmul_ok) qadd_ok) clo22o_ok) clo22s_ok) clo22a_ok) clo22b_ok) clo22r_ok
theorem Tv22_mu (f : FuncId) (a : List AVal) (H : Heap) : Tv22.mu f a H = none := (rfl)
theorem Tv22_fns : Tv22.fn 30 = (pureS (g1 okPo)) ∧ Tv22.fn 89 = (pureS (f1 boolF)) ∧ Tv22.fn 86 = (pureS sOwn) ∧ Tv22.fn 90 = (pureS (f2 mulP)) ∧ Tv22.fn 85 = (pureS (f2 addP)) ∧ Tv22.fn 77 = (pureS sClo22) ∧ Tv22.fn 80 = (pureS sClo22) ∧ Tv22.fn 123 = (pureS sCloZ) ∧ Tv22.fn 124 = (pureS sCloZ) ∧ Tv22.fn 81 = (pureS sCloZ) := ⟨rfl, rfl, rfl, rfl, rfl, rfl, rfl, rfl, rfl, rfl⟩
theorem L22_ok : LkOk Tv22 L22 where
 mu := Tv22_mu
 ok c p lk h := by
  have fns := Tv22_fns
  obtain ⟨-, -, -, -, -, e1, e2, e3, e4, e5⟩ := fns
  unfold L22 at h
  split at h
  ·split at h
   ·rename_i l hl
    obtain ⟨rfl, wl⟩ := decBs_some hl
    split at h
    ·rename_i hlen
     cases h
     refine ⟨_, _, rfl, fun x _ => ⟨wf_lookB wl, ?_⟩⟩
     rw [e1, pureS, sClo22_at wl hlen]
    ·cases h
   ·cases h
  ·split at h
   ·rename_i l hl
    obtain ⟨rfl, wl⟩ := decBs_some hl
    split at h
    ·rename_i hlen
     cases h
     refine ⟨_, _, rfl, fun x _ => ⟨wf_lookB wl, ?_⟩⟩
     rw [e2, pureS, sClo22_at wl hlen]
    ·cases h
   ·cases h
  ·cases h
   refine ⟨_, _, rfl, fun x hx => ⟨wf_ofQ _, ?_⟩⟩
   rw [e3, pureS]
   rfl
  ·cases h
   refine ⟨_, _, rfl, fun x hx => ⟨wf_ofQ _, ?_⟩⟩
   rw [e4, pureS]
   rfl
  ·cases h
   refine ⟨_, _, rfl, fun x hx => ⟨wf_ofQ _, ?_⟩⟩
   rw [e5, pureS]
   rfl
  ·cases h
theorem value22_ok : FnOk Tryz.prog base 23 (pureS (sValue L22)) := value_ok Tv22_ok ⟨Tv22_fns.1, Tv22_fns.2.1, Tv22_fns.2.2.1, Tv22_fns.2.2.2.1, Tv22_fns.2.2.2.2.1⟩ L22_ok
theorem of22_ok : FnOk Tryz.prog base 76 (pureS (sOfA L22)) := fof_ok value22_ok
def fewSp (x : Sp) : Bool := fewF1 x.lo && fewF1 x.hi
def fewS22 (l : List Sp) : Bool := (l.take 12).all fewSp && decide (l.length ≤ 10)
def few22P (l : List Sp) : PVal := .bool (fewS22 l)
def Tfw22 : Tab := Tab.none.with 14 (pureS (f1 fewP1))
theorem Tfw22_ok : TabOk Tryz.prog base Tfw22 := Tab.with_ok Tab.none_ok arat_ok
theorem Tfw22_mu (f : FuncId) (a : List AVal) (H : Heap) : Tfw22.mu f a H = none := (rfl)
theorem Tfw22_fns : Tfw22.fn 14 = (pureS (f1 fewP1)) := (rfl)
theorem few22_ok : FnOk Tryz.prog base 56 (pureS (s1 few22P)) := by
 refine pure_of_vc hmix Tfw22_ok globNone low56 fun args z hs hf => ?_
 obtain ⟨l, wl, rfl, rfl⟩ := s1_some hs
 refine ⟨by simp [lf56], ?_⟩
 unfold few22P
 obtain ⟨r, hr⟩ : ∃ r, r = fewS22 l := ⟨_, rfl⟩
 rw [← hr]
 simp [lf56]
 simp only [lf56_B0, vc_block]
 refine loop_ind (fun fr H => ∃ i : Nat, H = [] ∧ i ≤ l.length ∧ i ≤ 12 ∧ (l.take i).all fewSp = true ∧ fr 0 = .p (.lst (l.map Sp.enc)) ∧ fr 3 = .p (.int .i64 i)) (fun fr _ => 12 - ivar (fr 3)) ⟨0, rfl, by omega, by omega, by simp, by simp, by simp⟩ ?_
 rintro fr H ⟨i, rfl, hi, hi20, hall, f0, f3⟩
 by_cases hlt : i < l.length ∧ i < 12
 ·obtain ⟨h1, h2⟩ := hlt
  have h2I : (i : Int) < 12 := by omega
  obtain ⟨b, hb⟩ : ∃ b, l[i]? = some b := ⟨_, List.getElem?_eq_getElem h1⟩
  have hbe := getE hb
  have hw := wrap_succ (i := i) (by omega)
  have htk := take_succ_get hb
  have wb := wl b (List.mem_of_getElem? hb)
  have hcx : f1 fewP1 [b.lo.enc] = some (.bool (fewF1 b.lo)) := f1_at wb.1
  have hcy : f1 fewP1 [b.hi.enc] = some (.bool (fewF1 b.hi)) := f1_at wb.2
  simp only [Fr.enc] at hcx hcy
  have hbad : fewSp b = false → r = false := fun hf1 => by
   rw [hr]
   unfold fewS22
   have : (l.take 12).all fewSp = false := by
    cases h : (l.take 12).all fewSp with
    | false => rfl
    | true =>
     have := List.all_eq_true.1 h b (List.mem_of_getElem? (show (l.take 12)[i]? = some b by rw [List.getElem?_take, if_pos h2]; exact hb))
     rw [hf1] at this
     cases this
   rw [this]; rfl
  cases hf1 : fewF1 b.lo with
  | false =>
   rw [hf1] at hcx
   have := hbad (by unfold fewSp; rw [hf1]; rfl)
   simp [f0, f3, h1, h2I, hbe, Sp.enc, hcx, this, Tfw22_mu, Tfw22_fns]
  | true =>
   rw [hf1] at hcx
   cases hf2 : fewF1 b.hi with
   | false =>
    rw [hf2] at hcy
    have := hbad (by unfold fewSp; rw [hf1, hf2]; rfl)
    simp [f0, f3, h1, h2I, hbe, Sp.enc, hcx, hcy, this, Tfw22_mu, Tfw22_fns]
   | true =>
    rw [hf2] at hcy
    simp [f0, f3, h1, h2I, hbe, Sp.enc, hcx, hcy, hw, ivar, Tfw22_mu, Tfw22_fns]
    exact ⟨⟨i + 1, by omega, by omega, by
     have : (l.take (i + 1)).all fewSp = true := by rw [htk, List.all_append, hall]; simp [fewSp, hf1, hf2]
     simpa using this, by omega⟩, by omega⟩
 ·have hval : r = decide (l.length ≤ 10) := by
   rw [hr]
   unfold fewS22
   by_cases h1 : i < l.length
   ·have hi12 : i = 12 := by omega
    subst hi12
    rw [hall]; rfl
   ·have hil : i = l.length := by omega
    rw [List.take_of_length_le (by omega)] at hall ⊢
    rw [hall]; rfl
  by_cases h1 : i < l.length
  ·have h2I : ¬ (i : Int) < 12 := by omega
   have h3I : ¬ (l.length : Int) ≤ 10 := by omega
   have h3 : ¬ l.length ≤ 10 := by omega
   rw [decide_eq_false h3] at hval
   simp [f0, f3, h1, h2I, h3I, hval]
  ·by_cases h3 : l.length ≤ 10
   ·have h3I : (l.length : Int) ≤ 10 := by omega
    rw [decide_eq_true h3] at hval
    simp [f0, f3, h1, h3I, hval]
   ·have h3I : ¬ (l.length : Int) ≤ 10 := by omega
    rw [decide_eq_false h3] at hval
    simp [f0, f3, h1, h3I, hval]
end Go.Proofs.YtepfpgnjpkcgmaaGreat

/-
 law22: what the document fixes.
-/
namespace Go.Proofs.YtepfpgnjpkcgmaaGreat
open Go Go.Abs Go.Limbs
variable {base : Prot}
set_option maxRecDepth 20000
def Taw22 : Tab := (((((((((((Tab.none.with 82 (pureS sQOf)).with 71 (pureS (f1 pointP))).with 67 (pureS (ks1 100000 otherP))).with 58 (pureS sPick)).with 76 (pureS (sOfA L22))).with 63 (pureS (ks2 100000 meetP))).with 29 (pureS (f2 sameP))).with 69 (pureS (s1x hasP))).with 65 (pureS (ks2 1000 joinP))).with 73 (pureS sAll)).with 62 (pureS (ss2 sameSs))).with 60 (pureS (s1 validS))
theorem Taw22_ok : TabOk Tryz.prog base Taw22 := Tab.with_ok (Tab.with_ok (Tab.with_ok (Tab.with_ok (Tab.with_ok (Tab.with_ok (Tab.with_ok (Tab.with_ok (Tab.with_ok (Tab.with_ok (Tab.with_ok (Tab.with_ok Tab.none_ok rofR_ok) fpoint_ok) fother_ok) fpick_ok) of22_ok) fmeet_ok) rsame_ok) fhas_ok) fjoin_ok) fall_ok) rsamesp_ok) fvalid_ok
theorem aw22_run : eqO (K.runPK Taw22 5 lf57 []) (some (.bool true)) = true := by kernel_rfl
theorem awake22_ok : FnOk Tryz.prog base 57 (pureS sAwk) := by
 refine K.pure_of_runK hmix Taw22_ok globNone low57 5 fun args x hs => ?_
 unfold sAwk at hs
 split at hs
 case h_2 => cases hs
 cases hs
 exact eqO_ok aw22_run
end Go.Proofs.YtepfpgnjpkcgmaaGreat
