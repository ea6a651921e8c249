/-
  What is told of ids, as law23 hands it on; law23's awake. No conditions beyond the lemmas' own hypotheses.
-/
import Derived.Test.YtcfklmjgofknjaaGreatFmE
import Derived.Test.YtcfklmjgofknjaaGreatFmL
import Derived.Test.YtcfklmjgofknjaaGreatAbsThree
set_option linter.unusedSimpArgs false
set_option linter.unnecessarySimpa false
set_option linter.unusedVariables false
set_option linter.constructorNameAsVariable false

/-
 law23: what is told of ids; Holds and Weak of them; the small literals; what the document fixes.
-/
namespace Go.Proofs.YtcfklmjgofknjaaGreat
open Go Go.Abs Go.Limbs
variable {base : Prot}
set_option maxRecDepth 20000
attribute [local irreducible] vc
attribute [local simp] pureS touchV freezeL fuel shiftV u64 au
def sBinds23 : List PVal → Option PVal
 | [.lst vs] => match decBs vs with | some l => if l.length ≤ 1000000 then some (.lst vs) else none | none => none
 | _ => none
theorem sBinds23_at {l : List Bd} (h : wfB l) (hl : l.length ≤ 1000000) : sBinds23 [.lst (l.map Bd.enc)] = some (.lst (l.map Bd.enc)) := by simp only [sBinds23, decBs_enc h, if_pos hl]
theorem binds23_ok : FnOk Tryz.prog base 22 (pureS sBinds23) := by
 refine pure_of_vc hmix Tab.none_ok globNone low22 fun args z hs hf => ?_
 unfold sBinds23 at hs
 split at hs
 case h_2 => cases hs
 split at hs
 case h_2 => cases hs
 rename_i l hl
 obtain ⟨rfl, wl⟩ := decBs_some hl
 split at hs
 case isFalse => cases hs
 rename_i hlen
 cases hs
 have hm := maxLen_ge
 refine ⟨by simp [lf22], ?_⟩
 simp [lf22]
 simp only [lf22_B0, vc_block]
 refine loop_ind (fun fr H => ∃ i : Nat, i ≤ l.length ∧ Grown 0 4 67 ((l.take i).map Bd.enc) (fr 3) H ∧ fr 0 = .p (.lst (l.map Bd.enc)) ∧ fr 4 = .p (.int .i64 i)) (fun fr _ => l.length - ivar (fr 4))
  ⟨0, by omega, by simp; exact .nil _ _ _ _, by simp, by simp⟩ ?_
 rintro fr H ⟨i, hi, hg, f0, f4⟩
 by_cases h1 : i < l.length
 ·obtain ⟨b, hb⟩ : ∃ b, l[i]? = some b := ⟨_, List.getElem?_eq_getElem h1⟩
  have hbe := getE hb
  have hw := wrap_succ (i := i) (by omega)
  have htk := take_succ_get hb
  obtain ⟨k', v', ex', happ, hg'⟩ := (hg.more [⟨4, 0, false, [.p b.enc], 67⟩]).app (pre := []) rfl (y := b.enc) rfl rfl (by omega) (bytes := 64) (by simp; omega) (by simp; omega)
  simp only [Bd.enc, List.nil_append] at happ
  have hnew : (l.take (i + 1)).map Bd.enc = (l.take i).map Bd.enc ++ [b.enc] := by rw [htk, List.map_append]; rfl
  simp [f0, f4, h1, hbe, Bd.enc]
  rw [vc_regionW]
  refine ⟨[], ?_⟩
  simp [f0, f4, h1, hbe, Bd.enc, fillS, -appV, happ, hw, ivar]
  exact ⟨⟨i + 1, by omega, by rw [← List.map_take, hnew]; simpa [Nat.min_eq_left hi] using hg', by omega⟩, by omega⟩
 ·have hil : i = l.length := by omega
  rw [hil, List.take_length] at hg
  obtain ⟨x3, h3⟩ : ∃ x, x = fr 3 := ⟨_, rfl⟩
  rw [← h3] at hg
  rcases hg with ⟨he, rfl⟩ | ⟨j, v, rfl, hj⟩
  ·have : l = [] := by simpa using he
   subst this
   have hi0 : i = 0 := by simpa using hil
   subst hi0
   simp [f0, f4, ← h3]
  ·rw [Nat.zero_add] at h3
   simp [f0, f4, h1, ← h3, hj, mapO_pe, take_map]
def fewB1 (b : Bd) : Bool := fewF1 b.x && b.x.ok
def fewBV (l : List Bd) : Bool := (l.take 20).all fewB1 && decide (l.length ≤ 12)
def sFewB23 : List PVal → Option PVal
 | [.lst vs] => match decBs vs with | some l => some (.bool (fewBV l)) | none => none
 | _ => none
theorem sFewB23_at {l : List Bd} (h : wfB l) : sFewB23 [.lst (l.map Bd.enc)] = some (.bool (fewBV l)) := by simp only [sFewB23, decBs_enc h]
def Tfb23 : Tab := (Tab.none.with 36 (pureS (f1 fewP1))).with 37 (pureS (f1 boolF))
theorem Tfb23_ok : TabOk Tryz.prog base Tfb23 := Tab.with_ok (Tab.with_ok Tab.none_ok arat_ok) rvalidR_ok
theorem Tfb23_mu (f : FuncId) (a : List AVal) (H : Heap) : Tfb23.mu f a H = none := (rfl)
theorem Tfb23_fns : Tfb23.fn 36 = (pureS (f1 fewP1)) ∧ Tfb23.fn 37 = (pureS (f1 boolF)) := ⟨rfl, rfl⟩
theorem fewB23_ok : FnOk Tryz.prog base 11 (pureS sFewB23) := by
 refine pure_of_vc hmix Tfb23_ok globNone low11 fun args z hs hf => ?_
 unfold sFewB23 at hs
 split at hs
 case h_2 => cases hs
 split at hs
 case h_2 => cases hs
 rename_i l hl
 obtain ⟨rfl, wl⟩ := decBs_some hl
 cases hs
 refine ⟨by simp [lf11], ?_⟩
 obtain ⟨r, hr⟩ : ∃ r, r = fewBV l := ⟨_, rfl⟩
 rw [← hr]
 simp [lf11]
 simp only [lf11_B0, vc_block]
 refine loop_ind (fun fr H => ∃ i : Nat, H = [] ∧ i ≤ l.length ∧ i ≤ 20 ∧ (l.take i).all fewB1 = true ∧ fr 0 = .p (.lst (l.map Bd.enc)) ∧ fr 3 = .p (.int .i64 i)) (fun fr _ => 20 - ivar (fr 3)) ⟨0, rfl, by omega, by omega, by simp, by simp, by simp⟩ ?_
 rintro fr H ⟨i, rfl, hi, hi20, hall, f0, f3⟩
 by_cases hlt : i < l.length ∧ i < 20
 ·obtain ⟨h1, h2⟩ := hlt
  have h2I : (i : Int) < 20 := by omega
  obtain ⟨b, hb⟩ : ∃ b, l[i]? = some b := ⟨_, List.getElem?_eq_getElem h1⟩
  have hbe := getE hb
  have hw := wrap_succ (i := i) (by omega)
  have htk := take_succ_get hb
  have wb := wl b (List.mem_of_getElem? hb)
  have hcx : f1 fewP1 [b.x.enc] = some (.bool (fewF1 b.x)) := f1_at wb
  have hcy : f1 boolF [b.x.enc] = some (.bool b.x.ok) := f1_at wb
  simp only [Fr.enc] at hcx hcy
  have hbad : fewB1 b = false → r = false := fun hf1 => by
   rw [hr]
   unfold fewBV
   have : (l.take 20).all fewB1 = false := by
    cases h : (l.take 20).all fewB1 with
    | false => rfl
    | true =>
     have := List.all_eq_true.1 h b (List.mem_of_getElem? (show (l.take 20)[i]? = some b by rw [List.getElem?_take, if_pos h2]; exact hb))
     rw [hf1] at this
     cases this
   rw [this]; rfl
  cases hf1 : fewF1 b.x with
  | false =>
   rw [hf1] at hcx
   have := hbad (by unfold fewB1; rw [hf1]; rfl)
   simp [f0, f3, h1, h2I, hbe, Bd.enc, hcx, this, Tfb23_mu, Tfb23_fns]
  | true =>
   rw [hf1] at hcx
   cases hf2 : b.x.ok with
   | false =>
    rw [hf2] at hcy
    have := hbad (by unfold fewB1; rw [hf1, hf2]; rfl)
    simp [f0, f3, h1, h2I, hbe, Bd.enc, hcx, hcy, this, Tfb23_mu, Tfb23_fns]
   | true =>
    rw [hf2] at hcy
    simp [f0, f3, h1, h2I, hbe, Bd.enc, hcx, hcy, hw, ivar, Tfb23_mu, Tfb23_fns]
    exact ⟨⟨i + 1, by omega, by omega, by
     have : (l.take (i + 1)).all fewB1 = true := by rw [htk, List.all_append, hall]; simp [fewB1, hf1, hf2]
     simpa using this, by omega⟩, by omega⟩
 ·have hval : r = decide (l.length ≤ 12) := by
   rw [hr]
   unfold fewBV
   by_cases h1 : i < l.length
   ·have hi12 : i = 20 := by omega
    subst hi12
    rw [hall]; rfl
   ·have hil : i = l.length := by omega
    rw [List.take_of_length_le (by omega)] at hall ⊢
    rw [hall]; rfl
  by_cases h1 : i < l.length
  ·have h2I : ¬ (i : Int) < 20 := by omega
   have h3I : ¬ (l.length : Int) ≤ 12 := by omega
   have h3 : ¬ l.length ≤ 12 := by omega
   rw [decide_eq_false h3] at hval
   simp [f0, f3, h1, h2I, h3I, hval]
  ·by_cases h3 : l.length ≤ 12
   ·have h3I : (l.length : Int) ≤ 12 := by omega
    rw [decide_eq_true h3] at hval
    simp [f0, f3, h1, h3I, hval]
   ·have h3I : ¬ (l.length : Int) ≤ 12 := by omega
    rw [decide_eq_false h3] at hval
    simp [f0, f3, h1, h3I, hval]
theorem fewBV_len {l : List Bd} (h : fewBV l = true) : l.length ≤ 1000000 := by
 unfold fewBV at h
 rw [Bool.and_eq_true] at h
 have := of_decide_eq_true h.2
 omega
def sClo23 : List PVal → Option PVal
 | [.int .i64 i, .cptr [.lst vs]] => match decBs vs with | some l => if l.length ≤ 1000000 then some (lookB l i).enc else none | none => none
 | _ => none
theorem sClo23_at {l : List Bd} {i : Int} (h : wfB l) (hl : l.length ≤ 1000000) : sClo23 [.int .i64 i, .cptr [.lst (l.map Bd.enc)]] = some (lookB l i).enc := by simp only [sClo23, decBs_enc h, if_pos hl]
def Tclo23 : Tab := (Tab.none.with 22 (pureS sBinds23)).with 25 (pureS sLook)
theorem Tclo23_ok : TabOk Tryz.prog base Tclo23 := Tab.with_ok (Tab.with_ok Tab.none_ok binds23_ok) rlook_ok
theorem Tclo23_mu (f : FuncId) (a : List AVal) (H : Heap) : Tclo23.mu f a H = none := (rfl)
theorem Tclo23_fns : Tclo23.fn 22 = (pureS sBinds23) ∧ Tclo23.fn 25 = (pureS sLook) := ⟨rfl, rfl⟩
theorem clo23_ok : FnOk Tryz.prog base 24 (pureS sClo23) := by
 refine pure_of_vc hmix Tclo23_ok globNone low24 fun args z hs hf => ?_
 unfold sClo23 at hs
 split at hs
 case h_2 => cases hs
 rename_i i vs
 split at hs
 case h_2 => cases hs
 rename_i l hl
 obtain ⟨rfl, wl⟩ := decBs_some hl
 split at hs
 case isFalse => cases hs
 rename_i hlen
 cases hs
 refine ⟨by simp [lf24], ?_⟩
 have v1 := sBinds23_at wl hlen
 have v2 := sLook_at (i := i) wl
 simp only [Fr.enc] at v2 ⊢
 simp [lf24, v1, v2, Tclo23_mu, Tclo23_fns]
def Tclo3 : Tab := Tab.none.with 31 (pureS sQOf)
theorem Tclo3_ok : TabOk Tryz.prog base Tclo3 := Tab.with_ok Tab.none_ok rofR_ok
theorem Tclo3_mu (f : FuncId) (a : List AVal) (H : Heap) : Tclo3.mu f a H = none := (rfl)
theorem Tclo3_fns : Tclo3.fn 31 = (pureS sQOf) := (rfl)
def sClo3 : List PVal → Option PVal
 | [.int .i64 _] => some (ofQ 3).enc
 | _ => none
theorem clo23a_ok : FnOk Tryz.prog base 38 (pureS sClo3) := by
 refine pure_of_vc hmix Tclo3_ok globNone low38 fun args z hs hf => ?_
 unfold sClo3 at hs
 split at hs
 case h_2 => cases hs
 cases hs
 refine ⟨by simp [lf38], ?_⟩
 have o1 := ofR (n := 3) (d := 1) (by decide)
 rw [show Rat.divInt 3 1 = 3 by decide +kernel] at o1
 generalize ofQ 3 = x at o1 ⊢
 simp only [Fr.enc] at o1 ⊢
 simp [lf38, o1, Tclo3_mu, Tclo3_fns]
def L23 : Lk
 | .clo 24 [.cptr [.lst vs]], _ => match decBs vs with | some l => if l.length ≤ 1000000 then some (lookB l) else none | none => none
 | .clo 38 [], _ => some (fun _ => ofQ 3)
 | _, _ => none
theorem L23_at {l : List Bd} {p : Po} (h : wfB l) (hl : l.length ≤ 1000000) : L23 (.clo 24 [.cptr [.lst (l.map Bd.enc)]]) p = some (lookB l) := by simp only [L23, decBs_enc h, if_pos hl]
theorem L23_const (c : PVal) (p : Po) : L23 c p = L23 c zPo := by
 unfold L23
 split <;> rfl
def Tv23 : Tab := ((((((Tab.none.with 84 (pureS (g1 okPo))).with 85 (pureS (f1 boolF))).with 89 (pureS sOwn)).with 86 (pureS (f2 mulP))).with 91 (pureS (f2 addP))).with 24 (pureS sClo23)).with 38 (pureS sClo3)
theorem Tv23_ok : TabOk Tryz.prog base Tv23 := Tab.with_ok (Tab.with_ok (Tab.with_ok (Tab.with_ok (Tab.with_ok (Tab.with_ok (Tab.with_ok Tab.none_ok lvalid_ok) qvalid_ok) lown_ok) qmul_ok) qadd_ok) clo23_ok) clo23a_ok
theorem Tv23_mu (f : FuncId) (a : List AVal) (H : Heap) : Tv23.mu f a H = none := (rfl)
theorem Tv23_fns : Tv23.fn 84 = (pureS (g1 okPo)) ∧ Tv23.fn 85 = (pureS (f1 boolF)) ∧ Tv23.fn 89 = (pureS sOwn) ∧ Tv23.fn 86 = (pureS (f2 mulP)) ∧ Tv23.fn 91 = (pureS (f2 addP)) ∧ Tv23.fn 24 = (pureS sClo23) ∧ Tv23.fn 38 = (pureS sClo3) := ⟨rfl, rfl, rfl, rfl, rfl, rfl, rfl⟩
theorem L23_ok : LkOk Tv23 L23 where
 mu := Tv23_mu
 ok c p lk h := by
  have fns := Tv23_fns
  obtain ⟨-, -, -, -, -, e1, e2⟩ := fns
  unfold L23 at h
  split at h
  ·split at h
   ·rename_i l hl
    obtain ⟨rfl, wl⟩ := decBs_some hl
    split at h
    ·rename_i hlen
     cases h
     refine ⟨_, _, rfl, fun x _ => ⟨wf_lookB wl, ?_⟩⟩
     rw [e1, pureS, sClo23_at wl hlen]
    ·cases h
   ·cases h
  ·cases h
   refine ⟨_, _, rfl, fun x hx => ⟨wf_ofQ _, ?_⟩⟩
   rw [e2, pureS]
   rfl
  ·cases h
theorem value23_ok : FnOk Tryz.prog base 108 (pureS (sValue L23)) := value_ok Tv23_ok ⟨Tv23_fns.1, Tv23_fns.2.1, Tv23_fns.2.2.1, Tv23_fns.2.2.2.1, Tv23_fns.2.2.2.2.1⟩ L23_ok
theorem holds23_ok : FnOk Tryz.prog base 66 (pureS (sHolds L23)) := aholds_ok value23_ok
theorem weak23_ok : FnOk Tryz.prog base 23 (pureS (sWeak L23)) := fweak_ok holds23_ok L23_const
theorem ofI {n : Int} (h : -1000 ≤ n ∧ n ≤ 1000) : sQOf [.int .i64 n, .int .i64 1] = some (ofQ (n : Rat)).enc := by
 have := ofR (n := n) (d := 1) ⟨h, by decide⟩
 rwa [divInt_one] at this
def sLe : List PVal → Option PVal
 | [.int .i64 c, .int .i64 d, .int .i64 k, .bool st] => if (-1000 ≤ c ∧ c ≤ 1000) ∧ (-1000 ≤ d ∧ d ≤ 1000) ∧ (-1000 ≤ k ∧ k ≤ 1000) then some (Lt.mk (leA c d k st) false).enc else none
 | _ => none
def Tle : Tab := (Tab.none.with 31 (pureS sQOf)).with 32 (pureS (ki makeP))
theorem Tle_ok : TabOk Tryz.prog base Tle := Tab.with_ok (Tab.with_ok Tab.none_ok rofR_ok) rmake_ok
theorem Tle_mu (f : FuncId) (a : List AVal) (H : Heap) : Tle.mu f a H = none := (rfl)
theorem Tle_fns : Tle.fn 31 = (pureS sQOf) ∧ Tle.fn 32 = (pureS (ki makeP)) := ⟨rfl, rfl⟩
set_option maxHeartbeats 4000000 in
theorem le23_ok : FnOk Tryz.prog base 28 (pureS sLe) := by
 refine pure_of_vc hmix Tle_ok globNone low28 fun args z hs hf => ?_
 unfold sLe at hs
 split at hs
 case h_2 => cases hs
 rename_i c d k st
 split at hs
 case isFalse => cases hs
 rename_i hb
 obtain ⟨hc, hd, hk⟩ := hb
 cases hs
 refine ⟨by simp [lf28], ?_⟩
 have o1 := ofI hc
 have o2 := ofI hd
 have o3 := ofI hk
 have m1 : ki makeP [.int .i64 (kdOf st), (ofP (lq c d k)).enc] = some (tripAt (makeAt (kdOf st) (ofP (lq c d k)))) := ki_at (wf_ofP _) (by
  refine decide_eq_true ?_
  show ((lq c d k).ps.map ofA).length ≤ 1000000
  unfold lq
  by_cases h1 : c = 0 <;> by_cases h2 : d = 0 <;> simp [h1, h2])
 unfold leA
 generalize makeAt (kdOf st) (ofP (lq c d k)) = M at m1 ⊢
 obtain ⟨M, mt, e⟩ := M
 unfold tripAt at m1
 dsimp only at m1 ⊢
 rw [enc_ofP] at m1
 unfold lq at m1
 generalize hx1 : ofQ (c : Rat) = x1 at o1 m1
 generalize hx2 : ofQ (d : Rat) = x2 at o2 m1
 generalize hx3 : ofQ (k : Rat) = x3 at o3 m1
 simp only [At.enc, Lt.enc, Fr.enc] at o1 o2 o3 m1 ⊢
 have hM1 : 1 ≤ maxLen := by have := maxLen_ge; omega
 have hM2 : 2 ≤ maxLen := by have := maxLen_ge; omega
 have kt : kdOf true = 2 := rfl
 have kf : kdOf false = 1 := rfl
 by_cases h1 : c = 0
 ·rw [if_pos h1, List.nil_append] at m1
  by_cases h2 : d = 0
  ·rw [if_pos h2] at m1
   simp only [List.map_nil] at m1
   clear hx1 hx2 o1 o2
   subst h1
   subst h2
   cases st
   all_goals
    simp only [kt, kf] at m1
    simp [lf28, o3, m1, fillS, Tle_mu, Tle_fns]
    all_goals exact ⟨rfl, rfl, rfl, rfl, rfl, rfl, rfl⟩
  ·rw [if_neg h2] at m1
   simp only [List.map_cons, List.map_nil, hx2] at m1
   clear hx1 o1
   subst h1
   have n2 : ((d : Int) != 0) = true := by simp [h2]
   cases st
   all_goals
    simp only [kt, kf] at m1
    simp [lf28, o3, n2, fillS, Tle_mu, Tle_fns]
    rw [vc_regionW]
    refine ⟨[], ?_⟩
    simp [o2, m1, hM1, fillS, freeze1, Tle_mu, Tle_fns]
    exact keepT rfl
 ·rw [if_neg h1] at m1
  have n1 : ((c : Int) != 0) = true := by simp [h1]
  by_cases h2 : d = 0
  ·rw [if_pos h2, List.append_nil] at m1
   simp only [List.map_cons, List.map_nil, hx1] at m1
   clear hx2 o2
   subst h2
   cases st
   all_goals
    simp only [kt, kf] at m1
    simp [lf28, o3, n1, fillS, Tle_mu, Tle_fns]
    rw [vc_regionW]
    refine ⟨[], ?_⟩
    simp [o1, m1, hM1, fillS, freeze1, Tle_mu, Tle_fns]
    exact keepT rfl
  ·rw [if_neg h2] at m1
   simp only [List.map_cons, List.map_nil, List.cons_append, List.nil_append, hx1, hx2] at m1
   have n2 : ((d : Int) != 0) = true := by simp [h2]
   cases st
   all_goals
    simp only [kt, kf] at m1
    simp [lf28, o3, n1, n2, fillS, Tle_mu, Tle_fns]
    rw [vc_regionW]
    refine ⟨[], ?_⟩
    simp [o1, n2, hM1, fillS, Tle_mu, Tle_fns]
    refine ⟨keepT rfl, ?_⟩
    rw [vc_regionW]
    refine ⟨[], ?_⟩
    simp [o2, m1, hM2, fillS, freeze1, Tle_mu, Tle_fns]
    exact keepT rfl
end Go.Proofs.YtcfklmjgofknjaaGreat

/-
 law23: what the document fixes.
-/
namespace Go.Proofs.YtcfklmjgofknjaaGreat
open Go Go.Abs Go.Limbs
variable {base : Prot}
set_option maxRecDepth 20000
def Taw23 : Tab := ((((((((Tab.none.with 28 (pureS sLe)).with 15 (pureS (j2v twoP))).with 13 (pureS (j1v boundPL))).with 31 (pureS sQOf)).with 32 (pureS (ki makeP))).with 17 (pureS (j3v threeP))).with 23 (pureS (sWeak L23))).with 33 (pureS (h2 sameAt))).with 26 (pureS (jl validLP))
theorem Taw23_ok : TabOk Tryz.prog base Taw23 := Tab.with_ok (Tab.with_ok (Tab.with_ok (Tab.with_ok (Tab.with_ok (Tab.with_ok (Tab.with_ok (Tab.with_ok (Tab.with_ok Tab.none_ok le23_ok) ftwo_ok) fbound_ok) rofR_ok) rmake_ok) fthree_ok) weak23_ok) rsamea_ok) fvalidL_ok
theorem aw23_run : eqO (K.runPK Taw23 5 lf12 []) (some (.bool true)) = true := by kernel_rfl
theorem awake23_ok : FnOk Tryz.prog base 12 (pureS sAwk) := by
 refine K.pure_of_runK hmix Taw23_ok globNone low12 5 fun args x hs => ?_
 unfold sAwk at hs
 split at hs
 case h_2 => cases hs
 cases hs
 exact eqO_ok aw23_run
end Go.Proofs.YtcfklmjgofknjaaGreat
