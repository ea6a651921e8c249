/-
  A library of the prover's own, part 4: a walk that sees the memory anew between steps, and contracts of functions that call themselves. No conditions.
-/
import Derived.Test.YtdaiicaeklcceaaDoorAbsTwo
set_option linter.unusedSimpArgs false
set_option linter.unnecessarySimpa false
set_option linter.unusedVariables false
set_option linter.constructorNameAsVariable false

/-
 ABS, part Z: own arrays may be let go on the way: what is never written again becomes a pure value, between two steps of the code.
-/
namespace Go.Abs
variable {P : Program} {base : Prot}
def Seen (base : Prot) (n : Nat) (fr : AFr) (H : Heap) (fr' : AFr) (H' : Heap) : Prop :=
 ∀ (c : Ctx) (w : World) (a : Act), Inv base c H w → Sim n c fr a → ∃ c', Step c w c' w ∧ Inv base c' H' w ∧ Sim n c' fr' a
theorem Seen.refl (n : Nat) (fr : AFr) (H : Heap) : Seen base n fr H fr H := fun c _ _ hI hs => ⟨c, .refl _ _, hI, hs⟩
theorem Seen.trans {n : Nat} {fr fr1 fr2 : AFr} {H H1 H2 : Heap} (h : Seen base n fr H fr1 H1) (k : Seen base n fr1 H1 fr2 H2) : Seen base n fr H fr2 H2 := fun c w a hI hs => by
 obtain ⟨c1, s1, i1, m1⟩ := h c w a hI hs
 obtain ⟨c2, s2, i2, m2⟩ := k c1 w a i1 m1
 exact ⟨c2, s1.trans s2, i2, m2⟩
inductive VZ (base : Prot) (n : Nat) (T : Tab) : LCode → (LExit → AFr → Heap → Prop) → AFr → Heap → Prop
 | base {c : LCode} {Q : LExit → AFr → Heap → Prop} {fr : AFr} {H : Heap} (h : vc T c Q fr H) : VZ base n T c Q fr H
 | seen {c : LCode} {Q : LExit → AFr → Heap → Prop} {fr fr' : AFr} {H H' : Heap} (hs : Seen base n fr H fr' H') (h : VZ base n T c Q fr' H') : VZ base n T c Q fr H
 | seq {a b : LCode} {Q : LExit → AFr → Heap → Prop} {fr : AFr} {H : Heap} (R : AFr → Heap → Prop) (ha : VZ base n T a (thenQ R Q) fr H) (hb : ∀ fr H, R fr H → VZ base n T b Q fr H) : VZ base n T (.seq a b) Q fr H
 | cond {c : LOpd} {a b : LCode} {Q : LExit → AFr → Heap → Prop} {fr : AFr} {H : Heap} (t : Bool) (hc : opd fr c = .p (.bool t)) (ha : t = true → VZ base n T a Q fr H) (hb : t = false → VZ base n T b Q fr H) : VZ base n T (.cond c a b) Q fr H
 | block {id : Nat} {b : LCode} {Q : LExit → AFr → Heap → Prop} {fr : AFr} {H : Heap} (hid : id ≠ 999999) (h : VZ base n T b (blockQ id Q) fr H) : VZ base n T (.block id b) Q fr H
 | loop {b : LCode} {Q : LExit → AFr → Heap → Prop} {fr : AFr} {H : Heap} (I : AFr → Heap → Prop) (μ : AFr → Heap → Nat) (h0 : I fr H) (hr : ∀ fr H, I fr H → VZ base n T b (thenQ (fun fr' H' => I fr' H' ∧ μ fr' H' < μ fr H) Q) fr H) : VZ base n T (.loop b) Q fr H
theorem Seen.junk {n : Nat} {fr fr' : AFr} {H : Heap} (h : ∀ i, fr' i = fr i ∨ fr' i = .junk) : Seen base n fr H fr' H := by
 intro c w a hI hs
 refine ⟨c, .refl _ _, hI, hs.1, fun i hi => ?_⟩
 rcases h i with e | e
 ·rw [e]; exact hs.2 i hi
 ·rw [e]; exact .junk _
theorem Inv.reelem {c : Ctx} {H : Heap} {w : World} (hI : Inv base c H w) {k : Nat} {e : Ent} (hk : H[k]? = some e) {es : List AVal} (hl : es.length = e.elems.length)
  (h1 : ∀ x ∈ es, x.cells.length = e.size ∧ ∀ y ∈ x.cells, y.isCell = true)
  (h2 : ∀ (i : Nat) x x' (j : Nat) y y', e.elems[i]? = some x → es[i]? = some x' → x.cells[j]? = some y → x'.cells[j]? = some y' → ∀ v, Rep c y v → Rep c y' v) : Inv base c (H.set k { e with elems := es }) w := by
 have hkl : k < H.length := by
  rcases Nat.lt_or_ge k H.length with h | h
  ·exact h
  ·rw [List.getElem?_eq_none h] at hk; cases hk
 refine ⟨hI.base, by rw [List.length_set]; exact hI.len, hI.prot, fun k' e' l hH hL => ?_, hI.inj⟩
 rw [List.getElem?_set] at hH
 split at hH
 ·rename_i ek
  subst ek
  cases hH
  have ok := hI.ent k e l hk hL
  refine ⟨ok.ver, ok.size, ok.pos, h1, fun hn => ?_, ok.typed, fun g cap hg => ?_⟩
  ·have := ok.nowhere hn
   rw [this] at hl
   exact List.length_eq_zero_iff.1 hl
  ·obtain ⟨cur, ty, a1, a2, a3, a4, a5, a6⟩ := ok.there g cap hg
   refine ⟨cur, ty, a1, a2, a3, by dsimp only; omega, fun i x' j y' hx hy => ?_, fun o v ho => by dsimp only; rw [hl]; exact a6 o v ho⟩
   have hi : i < e.elems.length := by
    rcases Nat.lt_or_ge i es.length with h | h
    ·omega
    ·rw [List.getElem?_eq_none h] at hx; cases hx
   have hx0 : e.elems[i]? = some e.elems[i] := List.getElem?_eq_getElem hi
   have c0 := (ok.cells e.elems[i] (List.getElem_mem hi)).1
   have c1 := (h1 x' (List.mem_of_getElem? hx)).1
   have hj : j < e.elems[i].cells.length := by
    rcases Nat.lt_or_ge j x'.cells.length with h | h
    ·omega
    ·rw [List.getElem?_eq_none h] at hy; cases hy
   obtain ⟨v, b1, b2⟩ := a5 i _ j _ hx0 (List.getElem?_eq_getElem hj)
   exact ⟨v, b1, h2 i _ x' j _ y' hx0 hx (List.getElem?_eq_getElem hj) hy v b2⟩
 ·exact hI.ent k' e' l hH hL
theorem Seen.frzE {n : Nat} {fr : AFr} {H : Heap} (k i : Nat) {e : Ent} {v : AVal} {x : PVal} (hx : resolveV H fuel v = some x) (hk : (freezeL H (touchV H fuel v))[k]? = some e) (hv : e.elems[i]? = some v) :
  Seen base n fr H fr ((freezeL H (touchV H fuel v)).set k { e with elems := e.elems.set i (.p x) }) := by
 intro c w a hI hs
 obtain ⟨c2, e2, s2, i2, p2⟩ := hI.freezeL (touchV H fuel v)
 have same := same_freezeL (touchV H fuel v) H
 have hkl : c2.locs[k]? ≠ none := fun h => by
  have h1 := List.getElem?_eq_none_iff.1 h
  rw [i2.len] at h1
  rw [List.getElem?_eq_none h1] at hk
  cases hk
 obtain ⟨l, hl⟩ : ∃ l, c2.locs[k]? = some l := by
  cases h : c2.locs[k]? with
  | none => exact absurd h hkl
  | some l => exact ⟨l, rfl⟩
 have ok := i2.ent k e l hk hl
 have hprom : ∀ k' ∈ touchV (freezeL H (touchV H fuel v)) fuel v, Promised c2 (freezeL H (touchV H fuel v)) w k' := fun k' hk' => by
  rw [← touch_same same] at hk'
  exact (p2 k' hk').step rfl (fun _ _ _ h => h) (fun e he => freezeL_get _ H k' e he)
   (fun e l g cap a b d o ho => hI.cell_at a (by rw [← e2]; exact b) d o ho)
 have hcv := ok.cells v (List.mem_of_getElem? hv)
 have hx' := hx
 rw [resolve_same same] at hx'
 obtain ⟨q1, q2, q3⟩ := resolve_elem (fun m _ => resolve_ok i2 m) hx' hcv.2 hprom
 refine ⟨c2, s2, i2.reelem hk (by rw [List.length_set]) (fun y hy => ?_) (fun i' y y' j z z' hy hy' hz hz' u hu => ?_), ⟨hs.1, fun i hi => (hs.2 i hi).step s2⟩⟩
 ·rcases List.mem_or_eq_of_mem_set hy with h | h
  ·exact ok.cells y h
  ·subst h
   refine ⟨by show (x.cells.map AVal.p).length = _; rw [List.length_map, q1]; exact hcv.1, fun z hz => ?_⟩
   obtain ⟨z0, hz0, rfl⟩ := List.mem_map.1 (show z ∈ x.cells.map AVal.p from hz)
   exact q2 z0 hz0
 ·rw [List.getElem?_set] at hy'
  split at hy'
  ·rename_i hi
   subst hi
   split at hy'
   ·cases hy'
    rw [hv] at hy
    cases hy
    have hz2 : (x.cells.map AVal.p)[j]? = some z' := hz'
    rw [List.getElem?_map, Option.map_eq_some_iff] at hz2
    obtain ⟨z0, hz0, rfl⟩ := hz2
    obtain ⟨y0, b1, b2⟩ := q3 j z0 hz0
    rw [hz] at b1
    cases b1
    exact .p _ _ (b2 u hu)
   ·cases hy'
  ·rw [hy] at hy'
   cases hy'
   rw [hz] at hz'
   cases hz'
   exact hu
section
variable {gl : Nat → AVal} {n : Nat}
theorem low_seq {code : Code} {a b : LCode} (h : lowCodeM P gl n code = .seq a b) : ∃ x y, code = .seq x y ∧ lowCodeM P gl n x = a ∧ lowCodeM P gl n y = b := by
 cases code with
 | seq x y => simp only [lowCodeM, LCode.seq.injEq] at h; exact ⟨x, y, rfl, h.1, h.2⟩
 | region id ops draw => (simp only [lowCodeM, partM, lowCodeF] at h); (repeat' (split at h)); all_goals (cases h)
 | _ => simp [lowCodeM] at h
theorem low_cond {code : Code} {c : LOpd} {a b : LCode} (h : lowCodeM P gl n code = .cond c a b) : ∃ cc x y, code = .cond cc x y ∧ lowOpd gl n cc = c ∧ lowCodeM P gl n x = a ∧ lowCodeM P gl n y = b := by
 cases code with
 | cond cc x y => simp only [lowCodeM, LCode.cond.injEq] at h; exact ⟨cc, x, y, rfl, h.1, h.2.1, h.2.2⟩
 | region id ops draw => (simp only [lowCodeM, partM, lowCodeF] at h); (repeat' (split at h)); all_goals (cases h)
 | _ => simp [lowCodeM] at h
theorem low_block {code : Code} {id : Nat} {b : LCode} (hid : id ≠ 999999) (h : lowCodeM P gl n code = .block id b) : ∃ x, code = .block id x ∧ lowCodeM P gl n x = b := by
 cases code with
 | block i x => simp only [lowCodeM, LCode.block.injEq] at h; obtain ⟨rfl, h⟩ := h; exact ⟨x, rfl, h⟩
 | region id ops draw => (simp only [lowCodeM, partM, lowCodeF] at h); (repeat' (split at h)); all_goals first | (cases h; done) | (cases h; exact absurd rfl hid)
 | _ => simp [lowCodeM] at h
theorem low_loop {code : Code} {b : LCode} (h : lowCodeM P gl n code = .loop b) : ∃ x, code = .loop x ∧ lowCodeM P gl n x = b := by
 cases code with
 | loop x => simp only [lowCodeM, LCode.loop.injEq] at h; exact ⟨x, rfl, h⟩
 | region id ops draw => (simp only [lowCodeM, partM, lowCodeF] at h); (repeat' (split at h)); all_goals (cases h)
 | _ => simp [lowCodeM] at h
theorem vz_sound {ds : List Deferred} {T : Tab} (hm : P.follows .mixedOrders = true) (hT : TabOk P base T) (hg : GlobOk base gl) {lc : LCode} {Q : LExit → AFr → Heap → Prop} {fr : AFr} {H : Heap} (h : VZ base n T lc Q fr H) :
  ∀ (code : Code), lowCodeM P gl n code = lc → ∀ (c : Ctx) (w : World) (a : Act), Inv base c H w → Sim n c fr a → a.defers = ds → code.wp P (LQ base ds n c w Q) a w := by
 induction h with
 | base h =>
  intro code hc c w a hI hs hd
  subst hc
  exact code_soundM hm hT hg code _ c _ w _ a hI hs hd h
 | @seen lc Q fr fr' H H' hse h ih =>
  intro code hc c w a hI hs hd
  obtain ⟨c2, s2, i2, m2⟩ := hse c w a hI hs
  exact wp_mono (ih code hc c2 w a i2 m2 hd) fun e a' w' hq => hq.step s2
 | @seq la lb Q fr H R ha hb iha ihb =>
  intro code hc c w a hI hs hd
  obtain ⟨x, y, rfl, hx, hy⟩ := low_seq hc
  refine wp_seq (wp_mono (iha x hx c w a hI hs hd) fun e a' w' hq => ?_)
  obtain ⟨le, fr', H', c', q, he, s', i', m', d'⟩ := hq
  subst he
  cases le with
  | normal => exact wp_mono (ihb fr' H' q y hy c' w' a' i' m' d') fun e a2 w2 hq2 => hq2.step s'
  | exit id => exact ⟨.exit id, fr', H', c', q, rfl, s', i', m', d'⟩
  | ret => exact ⟨.ret, fr', H', c', q, rfl, s', i', m', d'⟩
 | @cond lcc la lb Q fr H t hcc ha hb iha ihb =>
  intro code hc c w a hI hs hd
  obtain ⟨cc, x, y, rfl, hcc', hx, hy⟩ := low_cond hc
  have rc := opd_ok hg hs hI.base cc
  rw [hcc', hcc] at rc
  have hv : a.eval cc = .bool t := by
   generalize a.eval cc = v at rc
   cases rc with | p _ _ rc => cases rc; rfl
  refine wp_cond hv ?_
  cases t with
  | true => simp only [if_true]; exact iha rfl x hx c w a hI hs hd
  | false => simp only [Bool.false_eq_true, if_false]; exact ihb rfl y hy c w a hI hs hd
 | @block id lb Q fr H hid h ih =>
  intro code hc c w a hI hs hd
  obtain ⟨x, rfl, hx⟩ := low_block hid hc
  refine wp_block (wp_mono (ih x hx c w a hI hs hd) fun e a' w' hq => ?_)
  obtain ⟨le, fr', H', c', q, he, s', i', m', d'⟩ := hq
  subst he
  cases le with
  | normal => exact ⟨.normal, fr', H', c', q, rfl, s', i', m', d'⟩
  | exit j =>
   simp only [blockQ] at q
   simp only [exitOf, Exit.inBlock]
   split at q
   ·rename_i hj; rw [if_pos hj]; exact ⟨.normal, fr', H', c', q, rfl, s', i', m', d'⟩
   ·rename_i hj; rw [if_neg hj]; exact ⟨.exit j, fr', H', c', q, rfl, s', i', m', d'⟩
  | ret => exact ⟨.ret, fr', H', c', q, rfl, s', i', m', d'⟩
 | @loop lb Q fr H I μ h0 hr ih =>
  intro code hc c w a hI hs hd
  obtain ⟨x, rfl, hx⟩ := low_loop hc
  refine wp_loop_ghost (fun m a' w' => ∃ fr' H' c', I fr' H' ∧ μ fr' H' = m ∧ Step c w c' w' ∧ Inv base c' H' w' ∧ Sim n c' fr' a' ∧ a'.defers = ds) (μ fr H) ⟨fr, H, c, h0, rfl, .refl _ _, hI, hs, hd⟩ ?_
  rintro m a1 w1 ⟨fr1, H1, c1, hI1, rfl, s1, i1, m1, d1⟩
  refine wp_mono (ih fr1 H1 hI1 x hx c1 w1 a1 i1 m1 d1) fun e a' w' hq => ?_
  obtain ⟨le, fr', H', c', q, he, s', i', m', d'⟩ := hq
  subst he
  cases le with
  | normal => exact ⟨μ fr' H', q.2, fr', H', c', q.1, rfl, s1.trans s', i', m', d'⟩
  | exit id => exact ⟨.exit id, fr', H', c', q, rfl, s1.trans s', i', m', d'⟩
  | ret => exact ⟨.ret, fr', H', c', q, rfl, s1.trans s', i', m', d'⟩
theorem calls_of_vz {T : Tab} (hm : P.follows .mixedOrders = true) (hT : TabOk P base T) (hg : GlobOk base gl) {f : FuncId} {lf : LFunc} (hl : lowFuncM P gl f = some lf) {args : List AVal} (hn : args.length ≤ lf.n) {H : Heap} {Q : AVal → Heap → Prop}
  {c : Ctx} {w : World} {vs : List Value} (hI : Inv base c H w) (hr : RepL c args vs)
  (h : (∀ x ∈ args, ∀ y, x = .p y → Fits y) → VZ base lf.n T lf.body (retQ T lf.results Q) (initFr args) H) :
  Calls P f vs.toArray w fun e w' => ∃ v r H' c', e = .returned v ∧ Q r H' ∧ Step c w c' w' ∧ Inv base c' H' w' ∧ Rep c' r v := by
 unfold lowFuncM at hl
 cases hf : P.funcs[f]? with
 | none => rw [hf] at hl; cases hl
 | some fn =>
  rw [hf] at hl
  simp only at hl
  split at hl
  case isFalse => cases hl
  cases hb : fn.body with
  | none => rw [hb] at hl; cases hl
  | some code =>
   rw [hb] at hl
   simp only at hl
   cases hrs : mapO (lowRes P fn.ntmps) fn.results.toList with
   | none => rw [hrs] at hl; cases hl
   | some rs =>
    rw [hrs] at hl; cases hl
    simp only at hn h
    have hlen : vs.length = args.length := hr.1
    have hfit : ∀ x ∈ args, ∀ y, x = .p y → Fits y := fun x hx y hy => by
     subst hy
     obtain ⟨j, hj, hxj⟩ := List.getElem_of_mem hx
     have := hr.2 j (.p y) (vs[j]'(by omega)) (by rw [List.getElem?_eq_getElem hj, hxj]) (by simp [hlen, hj])
     cases this with
     | p _ _ hp => exact ⟨_, _, hp⟩
    have hs : Sim fn.ntmps c (initFr args) { tmps := vs.toArray ++ Array.replicate (fn.ntmps - vs.toArray.size) undef, defers := [] } := by
     refine ⟨by simp; omega, fun i hi => ?_⟩
     unfold initFr
     by_cases hia : i < args.length
     ·have hiv : i < vs.length := by omega
      have : (vs.toArray ++ Array.replicate (fn.ntmps - vs.toArray.size) undef).getD i undef = vs[i] := by
       rw [Array.getD_eq_getD_getElem?, Array.getElem?_append_left (by simpa using hiv)]
       simp [hiv]
      rw [this, List.getElem?_eq_getElem hia]
      exact hr.2 i _ _ (by simp [hia]) (by simp [hiv])
     ·have : (vs.toArray ++ Array.replicate (fn.ntmps - vs.toArray.size) undef).getD i undef = undef := by
       rw [Array.getD_eq_getD_getElem?, Array.getElem?_append_right (by simp; omega), Array.getElem?_replicate]
       split <;> rfl
      rw [this, List.getElem?_eq_none (by omega)]
      exact .p _ _ (.tup [] [] rfl (by simp))
    refine calls_of_wp hf hb (wp_mono (vz_sound hm hT hg (h hfit) code rfl c w _ hI hs rfl) fun e a' w' hq => ?_)
    obtain ⟨le, fr', H2, c', q, he, s', i', m', d'⟩ := hq
    have fin : (match finish T rs fr' H2 with | some r => Q r H2 | none => False) → a'.defers = [] ∧ ∃ v, (results fn a'.tmps).run P w' = .ok v w' ∧ ∃ v' r H' c', Ending.returned v = .returned v' ∧ Q r H' ∧ Step c w c' w' ∧ Inv base c' H' w' ∧ Rep c' r v' := by
     intro hq0
     cases hfin : finish T rs fr' H2 with
     | none => rw [hfin] at hq0; exact hq0.elim
     | some r =>
     rw [hfin] at hq0
     simp only at hq0
     unfold finish at hfin
     cases hxs : mapO (resOne T fr' H2) rs with
     | none => rw [hxs] at hfin; cases hfin
     | some xs =>
      rw [hxs] at hfin
      obtain ⟨us, q1, q2⟩ := lowRes_run i' m' fn.results.toList rs xs hrs hxs
      have hres : (results fn a'.tmps).run P w' = .ok (if h : us.toArray.size = 1 then us.toArray[0] else .tuple us.toArray) w' := by
       unfold results
       have : (fn.results.mapM (resSem a')).run P w' = .ok us.toArray w' := by
        rw [Array.mapM_eq_mapM_toList]
        simp [q1]
       show ((fn.results.mapM (resSem a')) >>= _).run P w' = _
       rw [Sem.run_bind, this]
       rfl
      refine ⟨d', _, hres, _, r, H2, c', rfl, hq0, s', i', ?_⟩
      have hus := q2.1
      match xs, us, q2, hus, hfin with
      | [x], [u], q2, _, hfin => cases hfin; simpa using q2.2 0 _ u rfl rfl
      | [], [], q2, _, hfin => simp [allP] at hfin; subst hfin; exact .p _ _ (.tup [] [] rfl (by simp))
      | x :: y :: xs, u :: v :: us, q2, _, hfin =>
       have : ¬ (u :: v :: us).toArray.size = 1 := by simp
       rw [dif_neg this]
       simp only at hfin
       cases hps : allP (x :: y :: xs) with
       | none => rw [hps] at hfin; cases hfin; exact .tup _ _ q2.1 q2.2
       | some ps =>
        rw [hps] at hfin
        cases hfin
        rw [allP_some hps] at q2
        refine .p _ _ (.tup ps _ (by have := q2.1; simpa using this) (fun j a b h1 h2 => ?_))
        have := q2.2 j (.p a) b (by simp [h1]) h2
        cases this with
        | p _ _ h => exact h
    subst he
    cases le with
    | normal => exact fin q
    | exit id => exact q.elim
    | ret => exact fin q
end
theorem pure_of_vz {gl : Nat → AVal} {T : Tab} (hm : P.follows .mixedOrders = true) (hT : TabOk P base T) (hg : GlobOk base gl) {f : FuncId} {lf : LFunc} (hl : lowFuncM P gl f = some lf) {s : List PVal → Option PVal}
  (h : ∀ args x, s args = some x → (∀ y ∈ args, Fits y) → args.length ≤ lf.n ∧ VZ base lf.n T lf.body (endQ T lf.results x) (initFr (args.map .p)) []) : FnOk P base f (pureS s) := by
 refine ⟨goodFn_of_lowM hl, fun args r E hs c w vs hI hr => ?_⟩
 unfold pureS at hs
 cases hx : s args with
 | none => rw [hx] at hs; cases hs
 | some x =>
  rw [hx] at hs
  cases hs
  have hfit : ∀ y ∈ args, Fits y := fun y hy => by
   obtain ⟨j, hj, rfl⟩ := List.getElem_of_mem hy
   have hlen := hr.1
   simp only [List.length_map] at hlen
   have := hr.2 j (.p args[j]) (vs[j]'(by omega)) (by simp) (by simp [hlen, hj])
   cases this with
   | p _ _ hp => exact ⟨_, _, hp⟩
  have h0 : c.locs = [] := List.length_eq_zero_iff.1 (by rw [hI.len]; rfl)
  obtain ⟨hn, hv⟩ := h args x hx hfit
  have eQ : endQ T lf.results x = retQ T lf.results fun r H => resolveV H fuel r = some x := by
   funext e fr H
   cases e <;> simp only [endQ, retQ, finishP] <;> (cases finish T lf.results fr H <;> simp)
  rw [eQ] at hv
  refine (calls_of_vz hm hT hg hl (by simpa using hn) hI hr (fun _ => hv)).mono fun e w' ⟨v, r, H', c', he, hq, st, i', rp⟩ => ?_
  obtain ⟨c1, s1, i1, r1⟩ := let_go h0 st i' rp hq
  exact ⟨v, c1, he, s1, i1, r1⟩
end Go.Abs

/-
 ABS, part ZR: contracts of functions that call themselves: by a measure of the arguments.
-/
namespace Go.Abs
variable {P : Program} {base : Prot}
theorem FnOk.union {f : FuncId} {s : Nat → List PVal → Option PVal} {s' : List PVal → Option PVal} (h : ∀ m, FnOk P base f (pureS (s m))) (hs : ∀ args x, s' args = some x → ∃ m, s m args = some x) : FnOk P base f (pureS s') := by
 refine ⟨(h 0).1, fun args r E hx => ?_⟩
 unfold pureS at hx
 cases hy : s' args with
 | none => rw [hy] at hx; cases hx
 | some x =>
  rw [hy] at hx
  obtain ⟨m, hm⟩ := hs args x hy
  refine (h m).2 args r E ?_
  unfold pureS
  rw [hm]
  exact hx
theorem FnOk.steps {f : FuncId} {s : Nat → List PVal → Option PVal} (h0 : FnOk P base f (pureS (s 0))) (h : ∀ m, FnOk P base f (pureS (s m)) → FnOk P base f (pureS (s (m + 1)))) : ∀ m, FnOk P base f (pureS (s m))
 | 0 => h0
 | m + 1 => h m (FnOk.steps h0 h m)
end Go.Abs
