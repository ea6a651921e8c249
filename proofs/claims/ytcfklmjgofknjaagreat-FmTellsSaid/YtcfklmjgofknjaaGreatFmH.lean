/-
  FmTells answers true on all values. No conditions.
-/
import Derived.Test.YtcfklmjgofknjaaGreatFmG
set_option linter.unusedSimpArgs false
set_option linter.unnecessarySimpa false
set_option linter.unusedVariables false
set_option linter.constructorNameAsVariable false

/-
 law23: FmTells answers true.
-/
namespace Go.Proofs.YtcfklmjgofknjaaGreat
open Go Go.Abs Go.Limbs
variable {base : Prot}
set_option maxRecDepth 20000
attribute [local irreducible] vc
attribute [local simp] pureS touchV freezeL fuel shiftV u64 au
def boundPR (x : Lt) (v : Int) : PVal := tripB (boundR x v)
def twoPR (a b : Lt) (v : Int) : PVal := pairLs (twoR a b v)
def threePR (a b c : Lt) (v : Int) : PVal := pairLs (threeR a b c v)
def Tm23t : Tab := (((((((((((((((Tab.none.with 9 (pureS (h1 fewAt))).with 10 (pureS (jl fewLitsP))).with 11 (pureS sFewB23)).with 22 (pureS sBinds23)).with 12 (pureS sAwk)).with 13 (pureS (j1v boundPL))).with 14 (pureS (j1v boundPR))).with 15 (pureS (j2v twoP))).with 16 (pureS (j2v twoPR))).with 17 (pureS (j3v threeP))).with 18 (pureS (j3v threePR))).with 19 (pureS sSameL)).with 20 (pureS (h1 okAt))).with 21 (pureS sRHolds)).with 23 (pureS (sWeak L23))).with 26 (pureS (jl validLP))
theorem Tm23t_ok : TabOk Tryz.prog base Tm23t := Tab.with_ok (Tab.with_ok (Tab.with_ok (Tab.with_ok (Tab.with_ok (Tab.with_ok (Tab.with_ok (Tab.with_ok (Tab.with_ok (Tab.with_ok (Tab.with_ok (Tab.with_ok (Tab.with_ok (Tab.with_ok (Tab.with_ok (Tab.with_ok Tab.none_ok aatom_ok) alits_ok) fewB23_ok) binds23_ok) awake23_ok) fbound_ok) rbound_ok) ftwo_ok) rtwo_ok) fthree_ok) rthree_ok) rsamel_ok) rvatom_ok) rholds_ok) weak23_ok) fvalidL_ok
theorem Tm23t_mu (f : FuncId) (a : List AVal) (H : Heap) : Tm23t.mu f a H = none := (rfl)
theorem Tm23t_fns : Tm23t.fn 9 = (pureS (h1 fewAt)) ∧ Tm23t.fn 10 = (pureS (jl fewLitsP)) ∧ Tm23t.fn 11 = (pureS sFewB23) ∧ Tm23t.fn 22 = (pureS sBinds23) ∧ Tm23t.fn 12 = (pureS sAwk) ∧ Tm23t.fn 13 = (pureS (j1v boundPL)) ∧ Tm23t.fn 14 = (pureS (j1v boundPR)) ∧ Tm23t.fn 15 = (pureS (j2v twoP)) ∧ Tm23t.fn 16 = (pureS (j2v twoPR)) ∧ Tm23t.fn 17 = (pureS (j3v threeP)) ∧ Tm23t.fn 18 = (pureS (j3v threePR)) ∧ Tm23t.fn 19 = (pureS sSameL) ∧ Tm23t.fn 20 = (pureS (h1 okAt)) ∧ Tm23t.fn 21 = (pureS sRHolds) ∧ Tm23t.fn 23 = (pureS (sWeak L23)) ∧ Tm23t.fn 26 = (pureS (jl validLP)) := ⟨rfl, rfl, rfl, rfl, rfl, rfl, rfl, rfl, rfl, rfl, rfl, rfl, rfl, rfl, rfl, rfl⟩
def sLaw23t : List PVal → Option PVal
 | [a, b, c, .int .i64 _, .lst cs, .lst bs] => match decLt a, decLt b, decLt c, decLs cs, decBs bs with | some _, some _, some _, some _, some _ => some (.bool true) | _, _, _, _, _ => none
 | _ => none
theorem sLaw23t_at {x y z : Lt} {v : Int} {m : List Lt} {l : List Bd} (wx : x.wf) (wy : y.wf) (wz : z.wf) (wm : wfLs m) (wl : wfB l) : sLaw23t [x.enc, y.enc, z.enc, .int .i64 v, .lst (m.map Lt.enc), .lst (l.map Bd.enc)] = some (.bool true) := by
 simp only [sLaw23t, decLt_enc wx, decLt_enc wy, decLt_enc wz, decLs_enc wm, decBs_enc wl]
theorem loopT_step {lk : Int → Fr} {l : List Lt} {i : Nat} {x : Lt} {s : Bool × Bool × Nat} (hx : l[i]? = some x) : loopT lk (l.drop i) s = loopT lk (l.drop (i + 1)) (stepT lk s x) := by
 have hi := (List.getElem?_eq_some_iff.1 hx).1
 rw [List.drop_eq_getElem_cons hi, getE hx]
 rfl
set_option maxHeartbeats 8000000 in
theorem fmTells_ok : FnOk Tryz.prog base 3 (pureS sLaw23t) := by
 refine pure_of_vc hmix Tm23t_ok globNone low3 fun args z hs hf => ?_
 unfold sLaw23t at hs
 split at hs
 case h_2 => cases hs
 rename_i va vb vc' v ms vs
 split at hs
 case h_2 => cases hs
 rename_i a b c m l ha hb hc hm hl
 obtain ⟨rfl, wa⟩ := decLt_some ha
 obtain ⟨rfl, wb⟩ := decLt_some hb
 obtain ⟨rfl, wc⟩ := decLt_some hc
 obtain ⟨rfl, wm⟩ := decLs_some hm
 obtain ⟨rfl, wl⟩ := decBs_some hl
 cases hs
 have hlen := (hf (.lst (m.map Lt.enc)) (by simp)).lst.1
 unfold maxLen at hlen
 simp only [List.length_map] at hlen
 refine ⟨by simp [lf3], ?_⟩
 have aw := sAwk_nil
 have g1' : h1 fewAt [a.a.enc] = some (.bool (fewPo a.a.p)) := h1_at wa
 have g2' : h1 fewAt [b.a.enc] = some (.bool (fewPo b.a.p)) := h1_at wb
 have g3' : h1 fewAt [c.a.enc] = some (.bool (fewPo c.a.p)) := h1_at wc
 have g5' : jl fewLitsP [.lst (m.map Lt.enc)] = some (.bool (fewLits m)) := jl_at wm
 have g4' := sFewB23_at wl
 have b1 : fewPo a.a.p = true → j1v boundPL [a.enc, .int .i64 v] = some (tripB (boundL a v)) := fun h => j1v_at wa (few_lit h)
 have b2 : fewPo a.a.p = true → j1v boundPR [a.enc, .int .i64 v] = some (tripB (boundL a v)) := fun h => by rw [bound_eq]; exact j1v_at wa (few_lit h)
 have t1 : fewPo a.a.p = true → fewPo b.a.p = true → j2v twoP [a.enc, b.enc, .int .i64 v] = some (pairLs (twoL a b v)) := fun h h' => j2v_at wa (few_lit h) wb (few_lit h')
 have t2 : fewPo a.a.p = true → fewPo b.a.p = true → j2v twoPR [a.enc, b.enc, .int .i64 v] = some (pairLs (twoL a b v)) := fun h h' => by rw [two_eq]; exact j2v_at wa (few_lit h) wb (few_lit h')
 have t3 : fewPo a.a.p = true → fewPo b.a.p = true → fewPo c.a.p = true → j3v threeP [a.enc, b.enc, c.enc, .int .i64 v] = some (pairLs (threeL a b c v)) := fun h h' h2 => j3v_at wa (few_lit h) wb (few_lit h') wc (few_lit h2)
 have t4 : fewPo a.a.p = true → fewPo b.a.p = true → fewPo c.a.p = true → j3v threePR [a.enc, b.enc, c.enc, .int .i64 v] = some (pairLs (threeL a b c v)) := fun h h' h2 => by rw [three_eq]; exact j3v_at wa (few_lit h) wb (few_lit h') wc (few_lit h2)
 have s1 := sSameL_at (wf_twoL wa wb v)
 have s2 := sSameL_at (wf_threeL wa wb wc v)
 have q1 : fewBV l = true → sBinds23 [.lst (l.map Bd.enc)] = some (.lst (l.map Bd.enc)) := fun h => sBinds23_at wl (fewBV_len h)
 have w1 : fewLits m = true → fewBV l = true → sWeak L23 [.lst (m.map Lt.enc), .clo 24 [.cptr [.lst (l.map Bd.enc)]]] = some (holdsPr (weakL (lookB l) m true)) := fun h h' => sWeak_at wm (few_lits h).1 (L23_at wl (fewBV_len h'))
 have w2 : jl validLP [.lst (m.map Lt.enc)] = some (.bool (validLs m)) := jl_at wm
 obtain ⟨e1, e2, e3⟩ := weak_law (lookB l) m
 have hfm : fewLits m = true → ∀ x ∈ m, x.few = true := fun h => List.all_eq_true.1 (few_lits h).1
 generalize twoL a b v = T2 at t1 t2 s1
 generalize threeL a b c v = T3 at t3 t4 s2
 generalize boundL a v = B1 at b1 b2
 obtain ⟨k2, n2⟩ := T2
 obtain ⟨k3', n3⟩ := T3
 obtain ⟨b1', b2', b3'⟩ := B1
 unfold pairLs at t1 t2 t3 t4
 unfold tripB at b1 b2
 unfold holdsPr at w1
 dsimp only at t1 t2 t3 t4 b1 b2 s1 s2
 obtain ⟨⟨ak, ap, aa, ab⟩, an⟩ := a
 obtain ⟨⟨bk, bp, ba, bb⟩, bn⟩ := b
 obtain ⟨⟨ck, cp, ca, cb⟩, cn⟩ := c
 dsimp only at g1' g2' g3' t1 t2 t3 t4 b1 b2
 generalize fewPo ap = f1' at g1' t1 t2 t3 t4 b1 b2
 generalize fewPo bp = f2' at g2' t1 t2 t3 t4
 generalize fewPo cp = f3' at g3' t3 t4
 generalize fewBV l = f4' at g4' q1 w1
 generalize fewLits m = f5' at g5' w1 hfm
 simp only [At.enc, Lt.enc] at g1' g2' g3' t1 t2 t3 t4 b1 b2 ⊢
 cases f1' with
 | false => simp [lf3, g1', aw, Tm23t_mu, Tm23t_fns]
 | true =>
 cases f2' with
 | false => simp [lf3, g1', g2', aw, Tm23t_mu, Tm23t_fns]
 | true =>
 cases f3' with
 | false => simp [lf3, g1', g2', g3', aw, Tm23t_mu, Tm23t_fns]
 | true =>
 cases f5' with
 | false => simp [lf3, g1', g2', g3', g5', aw, Tm23t_mu, Tm23t_fns]
 | true =>
 cases f4' with
 | false => simp [lf3, g1', g2', g3', g5', g4', aw, Tm23t_mu, Tm23t_fns]
 | true =>
 have t1 := t1 rfl rfl
 have t2 := t2 rfl rfl
 have t3 := t3 rfl rfl rfl
 have t4 := t4 rfl rfl rfl
 have b1 := b1 rfl
 have b2 := b2 rfl
 have q1 := q1 rfl
 have w1 := w1 rfl rfl
 have hfm := hfm rfl
 have nb : ∀ n : Nat, ((n : Int) != n) = false := fun n => by simp
 simp [lf3, g1', g2', g3', g5', g4', b1, b2, t1, t2, t3, t4, s1, s2, nb, Tm23t_mu, Tm23t_fns]
 simp only [lf3_B0, vc_block]
 obtain ⟨E0, hE0⟩ : ∃ E : Ent, E = ⟨8, 0, false, [.p (Lt.mk ⟨ak, ap, aa, ab⟩ an).enc], 31⟩ := ⟨_, rfl⟩
 obtain ⟨E1, hE1⟩ : ∃ E : Ent, E = ⟨8, 0, false, [.p (Lt.mk ⟨bk, bp, ba, bb⟩ bn).enc], 31⟩ := ⟨_, rfl⟩
 obtain ⟨E2, hE2⟩ : ∃ E : Ent, E = ⟨8, 0, false, [.p (Lt.mk ⟨ck, cp, ca, cb⟩ cn).enc], 31⟩ := ⟨_, rfl⟩
 refine loop_ind (fun fr H => ∃ (i : Nat) (s : Bool × Bool × Nat), H = [E0, E1, E2, ⟨1, 0, false, [.p (.lst (l.map Bd.enc))], 33⟩] ∧ i ≤ m.length ∧ fr 4 = .p (.lst (m.map Lt.enc)) ∧ fr 11 = .optr 3 0 0 0 ∧ fr 27 = .p (.bool s.1) ∧ fr 28 = .p (.bool s.2.1) ∧ fr 29 = .p (.int .i64 s.2.2) ∧ fr 30 = .p (.int .i64 i) ∧
   loopT (lookB l) m (true, true, 0) = loopT (lookB l) (m.drop i) s) (fun fr _ => m.length - ivar (fr 30))
  ⟨0, (true, true, 0), by rw [hE0, hE1, hE2]; simp [Lt.enc], by omega, by simp, by simp, by simp, by simp, by simp, by simp, rfl⟩ ?_
 rintro fr H ⟨i, ⟨sv, sw, sn⟩, rfl, hi, f4, f11, f27, f28, f29, f30, hlp⟩
 dsimp only at f27 f28 f29
 by_cases h : i < m.length
 ·obtain ⟨x, hx⟩ : ∃ x, m[i]? = some x := ⟨_, List.getElem?_eq_getElem h⟩
  have wx : x.a.p.wf := wm x (List.mem_of_getElem? hx)
  have fx := hfm x (List.mem_of_getElem? hx)
  have hxe := getE hx
  have u1 : h1 okAt [x.a.enc] = some (.bool x.a.ok) := h1_at wx
  have u2 : sRHolds [x.a.enc, .lst (l.map Bd.enc)] = some (holdsPr (holdsAt (lookB l) x.a)) := sRHolds_at wx (lit_few fx (by decide)) wl
  rw [loopT_step hx] at hlp
  unfold stepT at hlp
  dsimp only at hlp
  generalize x.a.ok = o at u1 hlp
  generalize holdsAt (lookB l) x.a = d at u2 hlp
  obtain ⟨yes, e⟩ := d
  obtain ⟨⟨xk, xp, xa, xb⟩, xn⟩ := x
  unfold holdsPr at u2
  dsimp only at u2 hlp u1
  simp only [At.enc] at u1 u2
  have hwr := wrap_succ (i := i) (by omega)
  by_cases hn : sn = 0
  ·subst hn
   rw [if_pos rfl, if_pos rfl] at hlp
   cases sv <;> cases sw <;> cases o <;> cases yes <;> cases xn
   all_goals
    simp [f4, f11, f27, f28, f29, f30, h, hxe, Lt.enc, u1, u2, q1, hwr, ivar, Tm23t_mu, Tm23t_fns]
    exact ⟨⟨i + 1, by omega, e, rfl, by omega, by simpa using hlp⟩, by omega⟩
  ·rw [if_neg hn, if_neg hn] at hlp
   have eb : ((sn : Int) != 0) = true := by simp; omega
   cases sv <;> cases sw <;> cases o
   all_goals
    simp [f4, f11, f27, f28, f29, f30, h, hxe, Lt.enc, u1, eb, hwr, ivar, Tm23t_mu, Tm23t_fns]
    exact ⟨⟨i + 1, by omega, sn, rfl, by omega, by simpa using hlp⟩, by omega⟩
 ·have hil : i = m.length := by omega
  subst hil
  rw [List.drop_length] at hlp
  have hlp : loopT (lookB l) m (true, true, 0) = (sv, sw, sn) := hlp
  rw [hlp] at e1 e2 e3
  dsimp only at e1 e2 e3
  rw [← e1] at w2
  generalize weakL (lookB l) m true = W at w1 e2 e3
  obtain ⟨wk, we⟩ := W
  dsimp only at w1 e2 e3
  subst e2
  by_cases hw0 : we = 0
  ·have e4 := e3 hw0
   clear e3
   subst hw0
   subst e4
   simp [f4, f11, f27, f28, f29, f30, w1, w2, aw, mkClo, freeze1, Tm23t_mu, Tm23t_fns]
  ·have eb : ((we : Int) != 0) = true := by simp; omega
   simp [f4, f11, f27, f28, f29, f30, w1, w2, aw, eb, mkClo, freeze1, Tm23t_mu, Tm23t_fns]
end Go.Proofs.YtcfklmjgofknjaaGreat
