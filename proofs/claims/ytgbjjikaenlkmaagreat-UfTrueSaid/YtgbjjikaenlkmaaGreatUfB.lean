/-
  Maps filled from slices; sameness of values; what constants are by a map. What Clash and the small functions of uf, model and law24 compute. What uf.Lemma computes. What uf.Free and uf.Merge compute. Tables: where a table and a row are, their order, copies; what the document fixes. Ways of edges, distances, the least that is not forbidden: the plain law. No conditions beyond the lemmas' own hypotheses.
-/
import Derived.Test.YtgbjjikaenlkmaaGreatLinC
import Derived.Test.YtgbjjikaenlkmaaGreatNatA
import Derived.Test.YtgbjjikaenlkmaaGreatAbsThree
set_option linter.unusedSimpArgs false
set_option linter.unnecessarySimpa false
set_option linter.unusedVariables false
set_option linter.constructorNameAsVariable false

namespace Go.Proofs.YtgbjjikaenlkmaaGreat
open Go Go.Abs Go.Limbs Go.RowKit
variable {base : Prot}
set_option maxRecDepth 20000
def blkC1 : Code → Code
  | .block _ c => c
  | c => c
def rngA1 : Code → Code
  | .rangeFunc _ _ a _ => a
  | c => c
def rngB1 : Code → Code
  | .rangeFunc _ _ _ b => b
  | c => c
def opAt : Code → Nat → Oper
  | .region _ ops _, i => ops[i]!
  | _, _ => default
def dY (P : Program) (ty : TypeId) (n : Nat) : Bool := (P.underlying ty).isSome && (match P.info? ty with
  | some i => (match i.zero with | some z => decide (z.cells.size = n) | none => false)
  | none => false) && decide (zh P ty = n)
theorem nD {P : Program} {ty : TypeId} {n : Nat} (h : dY P ty n = true) : ∃ d i z, P.underlying ty = some d ∧ P.info? ty = some i ∧ i.zero = some z ∧ z.cells.size = n ∧ zh P ty = n := by
  unfold dY at h
  simp only [Bool.and_eq_true, decide_eq_true_eq] at h
  obtain ⟨⟨h1, h2⟩, h3⟩ := h
  obtain ⟨d, hd⟩ := Option.isSome_iff_exists.1 h1
  cases hi : P.info? ty with
  | none => rw [hi] at h2; cases h2
  | some i =>
    rw [hi] at h2
    simp only at h2
    cases hz : i.zero with
    | none => rw [hz] at h2; cases h2
    | some z =>
      rw [hz] at h2
      exact ⟨d, i, z, hd, rfl, hz, of_decide_eq_true h2, h3⟩
theorem ij {c c' : Ctx} {w w' : World} {r : AVal} {v : Value} {E T : zb} (h0 : c.locs = []) (st : Step c w c' w') (i : Inv base c' (E ++ T) w') (rp : Rep c' r v) (hb : yb E.length E) (hr : Below E.length r) :
    ∃ c2, Step c w c2 w' ∧ Inv base c2 E w' ∧ Rep c2 r v := by
  refine ⟨⟨c'.locs.take E.length, c'.prot⟩, ⟨st.prot, fun k l hl => ?_, st.os, st.tape, st.output, st.size, st.blk, fun b hb => ?_, st.newprot⟩, i.dropTail hb, rp.drop _ hr⟩
  · rw [h0] at hl; simp at hl
  · obtain ⟨k, l, cap, h1, h2⟩ := hb
    rw [List.getElem?_take] at h1
    split at h1
    · exact st.newloc b ⟨k, l, cap, h1, h2⟩
    · cases h1
def Gv.cells (g : Gv) : List PVal := .int .i64 g.id :: g.v.cells
section
attribute [local irreducible] vc
attribute [local simp] za zi freezeL fuel zk
def sBkG : List PVal → Option (AVal × zb)
  | [.lst es] => some (.clo 80 [.optr 0 0 0 0], [⟨1, 0, false, [.p (.lst es)], 30⟩])
  | _ => none
theorem bkG_ok : zG Tryz.prog base 47 sBkG := by
  refine ⟨qB low47, fun args r E hs c w vs hI hr => ?_⟩
  unfold sBkG at hs
  split at hs
  case h_2 => cases hs
  rename_i es
  cases hs
  refine (vO zB Tab.none_ok ze low47 (Q := fun r H => r = .clo 80 [.optr 0 0 0 0] ∧ H = [⟨1, 0, false, [.p (.lst es)], 30⟩]) (by simp [lf47]) hI hr (fun _ => ?_)).mono fun e w' ⟨v, r2, H2, c', he, hq, st, i', rp⟩ => ?_
  · simp [lf47, jI, aO, j3]
  · obtain ⟨rfl, rfl⟩ := hq
    exact ⟨v, c', he, st, i', rp⟩
end
noncomputable def bdG : Code := (Tryz.f24.body).getD .skip
noncomputable def c0G : Code := pC bdG
noncomputable def c1G : Code := pC (kX bdG)
noncomputable def cRG : Code := pC (pC (kX (kX bdG)))
noncomputable def cTG : Code := kX (kX (kX bdG))
noncomputable def cAG : Code := rngA1 (blkC1 (kX (pC (kX (kX bdG)))))
noncomputable def cBG : Code := rngB1 (blkC1 (kX (pC (kX (kX bdG)))))
theorem bodyG : Tryz.f24.body = some (seqs [c0G, c1G] ((cRG.seq (.block 0 (.rangeFunc (.tmp 8) #[9, 10] cAG cBG))).seq cTG)) := by kernel_rfl
def LG : LCode := lf24.body
theorem preG : [c0G, c1G].map (zJ Tryz.prog gl0 Tryz.f24.ntmps) = [dk LG, dk (kS LG)] := by kernel_rfl
theorem rG : zJ Tryz.prog gl0 Tryz.f24.ntmps cRG = dk (dk (kS (kS LG))) := by kernel_rfl
theorem tG : zJ Tryz.prog gl0 Tryz.f24.ntmps cTG = kS (kS (kS LG)) := by kernel_rfl
def lBG : LCode := .block 1 (
   .region [
     ⟨(some 11), none, .load 1 false (.tmp 3)⟩,
     ⟨(some 12), none, .fadr 0 (.tmp 5)⟩,
     ⟨(some 13), none, .load 1 false (.tmp 12)⟩,
     ⟨(some 14), none, .fadr 1 (.tmp 5)⟩,
     ⟨(some 15), none, .load 6 true (.tmp 14)⟩,
     ⟨none, none, .mset (.tmp 11) (.tmp 13) (.tmp 15)⟩])
theorem bG_low : zJ Tryz.prog gl0 Tryz.f24.ntmps cBG = lBG := by kernel_rfl
theorem bG_plain : qR cBG = true := by kernel_rfl
theorem resG : zP (jV Tryz.prog Tryz.f24.ntmps) Tryz.f24.results.toList = some lf24.results := by kernel_rfl
noncomputable def o1G : Oper := opAt cAG 0
noncomputable def o2G : Oper := opAt cAG 1
theorem cAG_eq : cAG = .region 3 #[o1G, o2G] false := by kernel_rfl
theorem zaf : o1G.op = .alloc 38 ∧ o1G.dst = some 5 ∧ o1G.guard = none := ⟨by kernel_rfl, by kernel_rfl, by kernel_rfl⟩
theorem zad : o2G.op = .store 38 (.tmp 5) (.tmp 10) ∧ o2G.dst = none ∧ o2G.guard = none := ⟨by kernel_rfl, by kernel_rfl, by kernel_rfl⟩
theorem zeroG : dY Tryz.prog 38 7 = true := by kernel_rfl
def kvG (g : Gv) : Int × PVal := (g.id, g.v.enc)
def dfG : Gv := ⟨0, ⟨0, false, ⟨false, [], []⟩, 0⟩⟩
def zvG : List Value := [.int .i64 0, .int .i64 0, .bool false, .bool false, .slice none 0 0, .slice none 0 0, .int .i64 0]
theorem zvG_rep (pr : Prot) : ∀ (j : Nat) z, (Gv.cells dfG)[j]? = some z → ∃ v, zvG[j]? = some v ∧ PRep pr z v := by
  intro j z h
  have hl : ∀ k, PRep pr (.lst []) (.slice none 0 0) := fun k => .lst [] none 0 0 k 0 0 (fun _ _ => default) rfl (Nat.le_refl _) (by decide) (by simp) (by simp) (by simp) (by simp) (by simp)
  match j, h with
  | 0, h => simp [Gv.cells, Va.cells, dfG] at h; subst h; exact ⟨_, rfl, .int _ _⟩
  | 1, h => simp [Gv.cells, Va.cells, dfG] at h; subst h; exact ⟨_, rfl, .int _ _⟩
  | 2, h => simp [Gv.cells, Va.cells, dfG] at h; subst h; exact ⟨_, rfl, .bool _⟩
  | 3, h => simp [Gv.cells, Va.cells, dfG] at h; subst h; exact ⟨_, rfl, .bool _⟩
  | 4, h => simp [Gv.cells, Va.cells, dfG] at h; subst h; exact ⟨_, rfl, hl 0⟩
  | 5, h => simp [Gv.cells, Va.cells, dfG] at h; subst h; exact ⟨_, rfl, hl 0⟩
  | 6, h => simp [Gv.cells, Va.cells, dfG] at h; subst h; exact ⟨_, rfl, .int _ _⟩
  | j + 7, h => simp [Gv.cells, Va.cells, dfG] at h
def rR : List PVal → Option (AVal × zb)
  | [.lst es] => match j0 cGv.dec es with
    | some gs => if gs.length ≤ 1000000000 then some (.omap 0 0, [⟨0, 0, false, kW (gs.map kvG), 0⟩]) else none
    | none => none
  | _ => none
def TkG : Tab := Tab.none.with 47 sBkG
theorem TkG_ok : TabOk Tryz.prog base TkG := Tab.with_ok Tab.none_ok bkG_ok
theorem TkG_fns : TkG.fn 47 = sBkG := (rfl)
theorem TkG_mu (f : FuncId) (a : List AVal) (H : zb) : TkG.mu f a H = none := (rfl)
def H0G (gs : List Gv) (es : List PVal) (pre : List Nat) : zb := [⟨0, 0, false, pre.foldl (fun m k => wU (kvG (gs.getD k dfG)).1 (kvG (gs.getD k dfG)).2 m) [], 0⟩, ⟨1, 0, false, [.omap 0 0], 88⟩, ⟨1, 0, true, [.p (.lst es)], 30⟩]
theorem H0G_all (gs : List Gv) : (upto (fun j => gs.length - 1 - j) gs.length).foldl (fun m k => wU (kvG (gs.getD k dfG)).1 (kvG (gs.getD k dfG)).2 m) [] = kW (gs.map kvG) := by
  have e : upto (fun j => gs.length - 1 - j) gs.length = (List.range gs.length).reverse := by
    apply List.ext_getElem?
    intro j
    unfold upto
    by_cases hj : j < gs.length
    · simp [hj]
    · rw [List.getElem?_eq_none (by simp; omega), List.getElem?_eq_none (by simp; omega)]
  rw [e, List.foldl_reverse]
  unfold kW
  rw [List.foldr_map]
  have e2 : gs = (List.range gs.length).map (fun k => gs.getD k dfG) := by
    apply List.ext_getElem?
    intro j
    by_cases hj : j < gs.length
    · simp [hj]
    · rw [List.getElem?_eq_none (by omega), List.getElem?_eq_none (by simp; omega)]
  conv => rhs; rw [e2]
  rw [List.foldr_map]
section
attribute [local irreducible] vc
attribute [local simp] za zi freezeL fuel zk
theorem tabG_ok : zG Tryz.prog base 24 rR := by
  refine ⟨qB low24, fun args r E hs c w vs hI hr => ?_⟩
  unfold rR at hs
  split at hs
  case h_2 => cases hs
  rename_i es
  split at hs
  case h_2 => cases hs
  rename_i gs hg
  split at hs
  case isFalse => cases hs
  rename_i hlen
  cases hs
  obtain ⟨rfl, wgs⟩ := cGv.edL _ _ hg
  obtain ⟨es, hes⟩ : ∃ t, t = gs.map cGv.enc := ⟨_, rfl⟩
  rw [← hes] at hr
  have hel : es.length = gs.length := by rw [hes]; simp
  have hloc : c.locs = [] := List.length_eq_zero_iff.1 (by rw [hI.len]; rfl)
  have hagg : ∀ x ∈ es, x.isAgg = true ∧ x.cells.length = 7 := fun x hx => by
    rw [hes] at hx
    obtain ⟨g, _, rfl⟩ := List.mem_map.1 hx
    exact ⟨rfl, rfl⟩
  refine (ci (T := TkG) zB TkG_ok ze Tryz.func24 bodyG resG (args := [(.lst es : PVal)].map AVal.p) (H := []) (Q := fun r H => r = .omap 0 0 ∧ ∃ T', H = [⟨0, 0, false, kW (gs.map kvG), 0⟩] ++ T') (by simp [Tryz.ntmps24]) hI hr
    (fun fr H => fr 3 = .optr 1 0 0 0 ∧ fr 8 = .clo 80 [.optr 2 0 0 0] ∧ H = [⟨0, 0, false, [], 0⟩, ⟨1, 0, false, [.omap 0 0], 88⟩, ⟨1, 0, false, [.p (.lst es)], 30⟩]) ?_ ?_).mono fun e w' ⟨v, r, H', c', he, hq, st, i', rp⟩ => ?_
  · rw [preG, rG]
    simp [vcs, LG, dk, kS, lf24, TkG_mu, TkG_fns, sBkG, wH]
  · rintro fr H c' w' a ⟨h3, h8, hH⟩ st iv sim hd
    have hsz : a.tmps.size = 17 := sim.1
    have rt := sim.2 8 (by rw [Tryz.ntmps24]; decide)
    rw [h8] at rt
    obtain ⟨v0, hv0, r0⟩ : ∃ v0, a.tmps.getD 8 undef = .func (.func 80) #[] #[v0] ∧ Rep c' (.optr 2 0 0 0) v0 := by
      generalize a.tmps.getD 8 undef = v at rt
      cases rt with
      | clo _ _ vs hl hr =>
        match vs, hl, hr with
        | [v0], _, hr => exact ⟨v0, rfl, hr 0 _ _ rfl rfl⟩
    have hk : H[2]? = some ⟨1, 0, false, [.p (.lst es)], 30⟩ := by rw [hH]; rfl
    obtain ⟨l, hl, he⟩ := iv.loc hk
    obtain ⟨hmp, g, cap, hp, rfl⟩ : l.mp = false ∧ ∃ g cap, l.place = some (g, cap) ∧ v0 = .pointer (some ⟨g, 0, none⟩) := by
      cases r0 with
      | optr _ _ _ _ l2 _ hl2 hv2 hh ho =>
        rw [hl] at hl2
        cases hl2
        obtain ⟨hm, g, cap, h1, h2⟩ := hh he.ver.symm
        exact ⟨hm, g, cap, h1, by simpa using h2⟩
    obtain ⟨cur, ty2, hh, _, _, _, hcur, _⟩ := he.there g cap hp hmp
    obtain ⟨sv, hsv, rsv⟩ := hcur 0 (.p (.lst es)) 0 (.p (.lst es)) rfl rfl
    simp only [Nat.zero_mul, Nat.zero_add] at hsv
    have hcell : w'.cell? ⟨g, 0, none⟩ = some sv := by
      unfold World.cell?
      simp [hh, hsv]
    obtain ⟨c1, e1, s1, i1, pm⟩ := iv.freeze1 2
    have hpr : c1.prot g 0 = some sv := (pm _ _ _ _ hk (by rw [e1]; exact hl) hp hmp 0 (by simp)).trans hcell
    have psv : PRep c1.prot (.lst es) sv := by
      cases rsv with
      | p _ _ h => exact h.mono s1.prot
    have hF : Abs.freeze1 H 2 = H0G gs es [] := by rw [hH]; rfl
    rw [hF] at i1
    obtain ⟨vals, hvals, hseq⟩ := bG_stops 5 g es hagg sv c1.prot (by omega) hpr psv w' (fun b o v hv => ⟨i1.prot b o v hv, i1.prot_lt hv⟩)
    have hval : ∀ k, k < es.length → ∃ us : List Value, vals k = .agg us.toArray ∧ us.length = 7 ∧ ∀ (j : Nat) z, (Gv.cells (gs.getD k dfG))[j]? = some z → ∃ v, us[j]? = some v ∧ PRep c1.prot z v := fun k hk => by
      have hg : gs[k]? = some (gs.getD k dfG) := by
        rw [List.getD_eq_getElem?_getD]
        rw [List.getElem?_eq_getElem (by omega)]
        rfl
      have hx : es[k]? = some (cGv.enc (gs.getD k dfG)) := by rw [hes, List.getElem?_map, hg]; rfl
      have := hvals k _ hx
      have he : cGv.enc (gs.getD k dfG) = .agg (Gv.cells (gs.getD k dfG)) := rfl
      rw [he] at this
      generalize vals k = vk at this
      cases this with
      | agg _ us hl hr hk =>
        refine ⟨us, rfl, hl, fun j z hz => ?_⟩
        have hj := (List.getElem?_eq_some_iff.1 hz).1
        exact ⟨us[j], by simp, hr j z _ hz (by simp)⟩
    obtain ⟨vx, hvx⟩ : ∃ vx : Nat → List Value, ∀ k, (vx k).length = 7 ∧ (∀ (j : Nat) z, (Gv.cells (gs.getD k dfG))[j]? = some z → ∃ v, (vx k)[j]? = some v ∧ PRep c1.prot z v) ∧ (k < es.length → vals k = .agg (vx k).toArray) := by
      have : ∀ k, ∃ us : List Value, us.length = 7 ∧ (∀ (j : Nat) z, (Gv.cells (gs.getD k dfG))[j]? = some z → ∃ v, us[j]? = some v ∧ PRep c1.prot z v) ∧ (k < es.length → vals k = .agg us.toArray) := fun k => by
        by_cases hk : k < es.length
        · obtain ⟨us, h1, h2, h3⟩ := hval k hk
          exact ⟨us, h2, h3, fun _ => h1⟩
        · refine ⟨zvG, rfl, ?_, fun h => absurd h hk⟩
          rw [List.getD_eq_getElem?_getD, List.getElem?_eq_none (by omega)]
          exact zvG_rep c1.prot
      exact ⟨fun k => (this k).choose, fun k => (this k).choose_spec⟩
    have eact : ∀ k : Nat, ({ tmps := ((#[9, 10] : Array Tmp).zip (#[Value.int .i64 (k : Int), .agg (vx k).toArray] : Array Value)).foldl (fun t (p, v) => t.setIfInBounds p v) a.tmps, defers := [] } : Act) = (a.put (some 9) (.int .i64 (k : Int))).put (some 10) (.agg (vx k).toArray) := fun k => by
      obtain ⟨tm, df⟩ := a
      simp only at hd
      subst hd
      simp [Act.put]
    have sim1 : Sim Tryz.f24.ntmps c1 fr a := sim.step s1
    have hz := nD zeroG
    obtain ⟨d, i, z, hu, hi, hzz, hzs, hsT⟩ := hz
    refine wp_mono (xq (n := Tryz.f24.ntmps) TkG_ok (ze (base := base)) i1 (m := 5) (lb := #[.pointer (some ⟨g, 0, none⟩)]) hv0 (enters_of Tryz.func80 (by kernel_rfl) rfl) (α := Nat) (encs := fun k => #[.int .i64 (k : Int), .agg (vx k).toArray]) (fun x => rfl)
      (hseq (fun k => k) (fun k hk => by rw [(hvx k).2.2 hk])) (p := 5) (size := 7) (ty := 38) (by omega) vx (fun k => cGv.enc (gs.getD k dfG)) (fun k => (hvx k).1) (fun k => rfl) (fun k z hz => ?_) (fun k => (hvx k).2.1)
      (fun k => put (put fr (some 9) (.p (.int .i64 (k : Int)))) (some 10) (.p (cGv.enc (gs.getD k dfG)))) (fun k => (a.put (some 9) (.int .i64 (k : Int))).put (some 10) (.agg (vx k).toArray)) (fun k => ⟨?_, by rw [put_defers, put_defers]; exact hd⟩)
      (fun l k W K hK => ?_) (H0G gs es) rfl (fun _ => rfl) (fun pre k e he => ?_) (fun pre => ?_) bG_plain (fun pre k hlt => ?_)
      (Q := fun e a2 w2 => e = .normal ∧ ∃ D fr2 H2 c2, a2.defers = [{ target := .collected D, args := #[] }] ∧ Step c1 w' c2 w2 ∧ Inv base c2 H2 w2 ∧ Sim Tryz.f24.ntmps c2 fr2 a2 ∧
          w2.heap[D]? = some (.deferred (some [])) ∧ w'.heap.size ≤ D ∧ vc TkG (zJ Tryz.prog gl0 Tryz.f24.ntmps cTG) (jI TkG lf24.results (fun r H => r = .omap 0 0 ∧ ∃ T', H = [⟨0, 0, false, kW (gs.map kvG), 0⟩] ++ T')) fr2 H2) ?_) ?_
    · simp only [Va.cells, cGv, dfG, PVal.cells] at hz
      simp only [List.mem_cons, List.not_mem_nil, or_false] at hz; rcases hz with rfl | rfl | rfl | rfl | rfl | rfl | rfl <;> rfl
    · refine (sim1.put (.p _ _ (.int _ _)) (some 9)).put (.p _ _ ?_) (some 10)
      obtain ⟨hl, hv, _⟩ := hvx k
      refine .agg _ _ hl (fun j z v h1 h2 => ?_) (fun z hz => ?_)
      · obtain ⟨v', h3, h4⟩ := hv j z h1
        rw [h2] at h3
        cases h3
        exact h4
      · simp only [Va.cells, dfG] at hz
        simp only [List.mem_cons, List.not_mem_nil, or_false] at hz; rcases hz with rfl | rfl | rfl | rfl | rfl | rfl | rfl <;> rfl
    · show cAG.wpIn (WR l) 4 Tryz.prog _ ({ tmps := ((#[9, 10] : Array Tmp).zip (#[Value.int .i64 (k : Int), .agg (vx k).toArray] : Array Value)).foldl (fun t (p, v) => t.setIfInBounds p v) a.tmps, defers := [] } : Act) W
      rw [eact, cAG_eq]
      refine tf zaf.1 zaf.2.1 zaf.2.2 zad.1 zad.2.1 zad.2.2 hu hi hzz (by rw [hzs, hsT]) (by rw [hsT]; exact (hvx k).1) (fun v hv => ?_) (by simp [Act.put, hsz]) (by decide) (by simp [Act.put, hsz, Array.getD]) hK
      obtain ⟨j, hj, rfl⟩ := List.getElem_of_mem hv
      have hj' : j < (Gv.cells (gs.getD k dfG)).length := by rw [(hvx k).1] at hj; exact hj
      obtain ⟨v', h1, h2⟩ := (hvx k).2.1 j _ (List.getElem?_eq_getElem hj')
      rw [List.getElem?_eq_getElem hj] at h1
      cases h1
      refine (h2.one ?_).1
      have hz := List.getElem_mem hj'
      generalize (Gv.cells (gs.getD k dfG))[j] = z at hz
      simp only [Gv.cells, Va.cells, dfG] at hz
      simp only [List.mem_cons, List.not_mem_nil, or_false] at hz; rcases hz with rfl | rfl | rfl | rfl | rfl | rfl | rfl <;> rfl
    · match k, he with
      | 0, he => simp [H0G] at he; subst he; exact ⟨_, rfl, rfl, rfl⟩
      | 1, he => simp [H0G] at he; subst he; exact ⟨_, rfl, rfl, rfl⟩
      | 2, he => simp [H0G] at he; subst he; exact ⟨_, rfl, rfl, rfl⟩
      | k + 3, he => simp [H0G] at he
    · intro e he x hx y hy
      simp only [H0G, List.mem_cons, List.not_mem_nil, or_false] at he
      rcases he with rfl | rfl | rfl
      · have : ∃ k z, x = qh k z := by
          have hm : ∀ (pre : List Nat) (m : List AVal), (∀ x ∈ m, ∃ k z, x = qh k z) → ∀ x ∈ pre.foldl (fun m k => wU (kvG (gs.getD k dfG)).1 (kvG (gs.getD k dfG)).2 m) m, ∃ k z, x = qh k z := by
            intro pre
            induction pre with
            | nil => intro m hm; exact hm
            | cons a r ih => intro m hm; exact ih _ (uC _ _ m hm)
          exact hm pre [] (by simp) x hx
        obtain ⟨k, z, rfl⟩ := this
        simp only [qh, AVal.cells, PVal.cells, List.mem_map] at hy
        obtain ⟨u, _, rfl⟩ := hy
        exact .p _
      · simp at hx
        subst hx
        simp [AVal.cells] at hy
        subst hy
        exact .omap _ _ (by simp [H0G])
      · simp at hx
        subst hx
        simp [AVal.cells] at hy
        obtain ⟨u, _, rfl⟩ := hy
        exact .p _
    · rw [bG_low]
      simp [lBG, H0G, Va.cells, cGv, dfG, h3, List.foldl_append, kvG, Va.enc, Va.cells]
    · intro xs D c' w2 hS hD st2 iv2 hK
      subst hS
      refine ⟨rfl, D, fr, _, c', by simp [hd], st2, iv2, sim1.step st2, hK, hD, ?_⟩
      have hall := H0G_all gs
      rw [← hel] at hall
      rw [tG]
      simp only [H0G, hall]
      simp [LG, kS, lf24, h3, jI]
    · rintro e a2 w2 ⟨rfl, D, fr2, H2, c2, h1, h2, h3, h4, h5, h6, h7⟩
      exact ⟨rfl, D, fr2, H2, c2, h1, s1.trans h2, h3, h4, h5, h6, h7⟩
  · obtain ⟨rfl, T', rfl⟩ := hq
    obtain ⟨c2, s2, i2, r2⟩ := ij hloc st i' rp (fun e he x hx y hy => by
      simp at he
      subst he
      obtain ⟨k, z, rfl⟩ := uk _ x hx
      simp only [qh, AVal.cells, PVal.cells, List.mem_map] at hy
      obtain ⟨u, _, rfl⟩ := hy
      exact .p _) (.omap _ _ (by simp))
    exact ⟨v, c2, he, s2, i2, r2⟩
end
end Go.Proofs.YtgbjjikaenlkmaaGreat

namespace Go.Proofs.YtgbjjikaenlkmaaGreat
open Go Go.Abs Go.Limbs Go.RowKit
variable {base : Prot}
set_option maxRecDepth 20000
def Vr.cells (g : Vr) : List PVal := [.int .i64 g.id, .int .i64 g.k]
section
attribute [local irreducible] vc
attribute [local simp] za zi freezeL fuel zk
def sBkV : List PVal → Option (AVal × zb)
  | [.lst es] => some (.clo 67 [.optr 0 0 0 0], [⟨1, 0, false, [.p (.lst es)], 24⟩])
  | _ => none
theorem bkV_ok : zG Tryz.prog base 39 sBkV := by
  refine ⟨qB low39, fun args r E hs c w vs hI hr => ?_⟩
  unfold sBkV at hs
  split at hs
  case h_2 => cases hs
  rename_i es
  cases hs
  refine (vO zB Tab.none_ok ze low39 (Q := fun r H => r = .clo 67 [.optr 0 0 0 0] ∧ H = [⟨1, 0, false, [.p (.lst es)], 24⟩]) (by simp [lf39]) hI hr (fun _ => ?_)).mono fun e w' ⟨v, r2, H2, c', he, hq, st, i', rp⟩ => ?_
  · simp [lf39, jI, aO, j3]
  · obtain ⟨rfl, rfl⟩ := hq
    exact ⟨v, c', he, st, i', rp⟩
end
noncomputable def bdV : Code := (Tryz.f20.body).getD .skip
noncomputable def c0V : Code := pC bdV
noncomputable def c1V : Code := pC (kX bdV)
noncomputable def cRV : Code := pC (pC (kX (kX bdV)))
noncomputable def cTV : Code := kX (kX (kX bdV))
noncomputable def cAV : Code := rngA1 (blkC1 (kX (pC (kX (kX bdV)))))
noncomputable def cBV : Code := rngB1 (blkC1 (kX (pC (kX (kX bdV)))))
theorem bodyV : Tryz.f20.body = some (seqs [c0V, c1V] ((cRV.seq (.block 0 (.rangeFunc (.tmp 8) #[9, 10] cAV cBV))).seq cTV)) := by kernel_rfl
def LV : LCode := lf20.body
theorem preV : [c0V, c1V].map (zJ Tryz.prog gl0 Tryz.f20.ntmps) = [dk LV, dk (kS LV)] := by kernel_rfl
theorem rV : zJ Tryz.prog gl0 Tryz.f20.ntmps cRV = dk (dk (kS (kS LV))) := by kernel_rfl
theorem tV : zJ Tryz.prog gl0 Tryz.f20.ntmps cTV = kS (kS (kS LV)) := by kernel_rfl
def lBV : LCode := .block 1 (
   .region [
     ⟨(some 11), none, .load 1 false (.tmp 3)⟩,
     ⟨(some 12), none, .fadr 0 (.tmp 5)⟩,
     ⟨(some 13), none, .load 1 false (.tmp 12)⟩,
     ⟨(some 14), none, .fadr 1 (.tmp 5)⟩,
     ⟨(some 15), none, .load 1 false (.tmp 14)⟩,
     ⟨none, none, .mset (.tmp 11) (.tmp 13) (.tmp 15)⟩])
theorem bV_low : zJ Tryz.prog gl0 Tryz.f20.ntmps cBV = lBV := by kernel_rfl
theorem bV_plain : qR cBV = true := by kernel_rfl
theorem resV : zP (jV Tryz.prog Tryz.f20.ntmps) Tryz.f20.results.toList = some lf20.results := by kernel_rfl
noncomputable def o1V : Oper := opAt cAV 0
noncomputable def o2V : Oper := opAt cAV 1
theorem cAV_eq : cAV = .region 3 #[o1V, o2V] false := by kernel_rfl
theorem zae : o1V.op = .alloc 29 ∧ o1V.dst = some 5 ∧ o1V.guard = none := ⟨by kernel_rfl, by kernel_rfl, by kernel_rfl⟩
theorem zac : o2V.op = .store 29 (.tmp 5) (.tmp 10) ∧ o2V.dst = none ∧ o2V.guard = none := ⟨by kernel_rfl, by kernel_rfl, by kernel_rfl⟩
theorem zeroV : dY Tryz.prog 29 2 = true := by kernel_rfl
def kvV (g : Vr) : Int × PVal := (g.id, .int .i64 g.k)
def dfV : Vr := ⟨0, 0⟩
def zvV : List Value := [.int .i64 0, .int .i64 0]
theorem zvV_rep (pr : Prot) : ∀ (j : Nat) z, (Vr.cells dfV)[j]? = some z → ∃ v, zvV[j]? = some v ∧ PRep pr z v := by
  intro j z h
  have hl : ∀ k, PRep pr (.lst []) (.slice none 0 0) := fun k => .lst [] none 0 0 k 0 0 (fun _ _ => default) rfl (Nat.le_refl _) (by decide) (by simp) (by simp) (by simp) (by simp) (by simp)
  match j, h with
  | 0, h => simp [Vr.cells, dfV] at h; subst h; exact ⟨_, rfl, .int _ _⟩
  | 1, h => simp [Vr.cells, dfV] at h; subst h; exact ⟨_, rfl, .int _ _⟩
  | j + 2, h => simp [Vr.cells, dfV] at h
def rQ : List PVal → Option (AVal × zb)
  | [.lst es] => match j0 cVr.dec es with
    | some gs => if gs.length ≤ 1000000000 then some (.omap 0 0, [⟨0, 0, false, kW (gs.map kvV), 0⟩]) else none
    | none => none
  | _ => none
def TkV : Tab := Tab.none.with 39 sBkV
theorem TkV_ok : TabOk Tryz.prog base TkV := Tab.with_ok Tab.none_ok bkV_ok
theorem TkV_fns : TkV.fn 39 = sBkV := (rfl)
theorem TkV_mu (f : FuncId) (a : List AVal) (H : zb) : TkV.mu f a H = none := (rfl)
def H0V (gs : List Vr) (es : List PVal) (pre : List Nat) : zb := [⟨0, 0, false, pre.foldl (fun m k => wU (kvV (gs.getD k dfV)).1 (kvV (gs.getD k dfV)).2 m) [], 0⟩, ⟨1, 0, false, [.omap 0 0], 81⟩, ⟨1, 0, true, [.p (.lst es)], 24⟩]
theorem H0V_all (gs : List Vr) : (upto (fun j => gs.length - 1 - j) gs.length).foldl (fun m k => wU (kvV (gs.getD k dfV)).1 (kvV (gs.getD k dfV)).2 m) [] = kW (gs.map kvV) := by
  have e : upto (fun j => gs.length - 1 - j) gs.length = (List.range gs.length).reverse := by
    apply List.ext_getElem?
    intro j
    unfold upto
    by_cases hj : j < gs.length
    · simp [hj]
    · rw [List.getElem?_eq_none (by simp; omega), List.getElem?_eq_none (by simp; omega)]
  rw [e, List.foldl_reverse]
  unfold kW
  rw [List.foldr_map]
  have e2 : gs = (List.range gs.length).map (fun k => gs.getD k dfV) := by
    apply List.ext_getElem?
    intro j
    by_cases hj : j < gs.length
    · simp [hj]
    · rw [List.getElem?_eq_none (by omega), List.getElem?_eq_none (by simp; omega)]
  conv => rhs; rw [e2]
  rw [List.foldr_map]
section
attribute [local irreducible] vc
attribute [local simp] za zi freezeL fuel zk
theorem tabV_ok : zG Tryz.prog base 20 rQ := by
  refine ⟨qB low20, fun args r E hs c w vs hI hr => ?_⟩
  unfold rQ at hs
  split at hs
  case h_2 => cases hs
  rename_i es
  split at hs
  case h_2 => cases hs
  rename_i gs hg
  split at hs
  case isFalse => cases hs
  rename_i hlen
  cases hs
  obtain ⟨rfl, wgs⟩ := cVr.edL _ _ hg
  obtain ⟨es, hes⟩ : ∃ t, t = gs.map cVr.enc := ⟨_, rfl⟩
  rw [← hes] at hr
  have hel : es.length = gs.length := by rw [hes]; simp
  have hloc : c.locs = [] := List.length_eq_zero_iff.1 (by rw [hI.len]; rfl)
  have hagg : ∀ x ∈ es, x.isAgg = true ∧ x.cells.length = 2 := fun x hx => by
    rw [hes] at hx
    obtain ⟨g, _, rfl⟩ := List.mem_map.1 hx
    exact ⟨rfl, rfl⟩
  refine (ci (T := TkV) zB TkV_ok ze Tryz.func20 bodyV resV (args := [(.lst es : PVal)].map AVal.p) (H := []) (Q := fun r H => r = .omap 0 0 ∧ ∃ T', H = [⟨0, 0, false, kW (gs.map kvV), 0⟩] ++ T') (by simp [Tryz.ntmps20]) hI hr
    (fun fr H => fr 3 = .optr 1 0 0 0 ∧ fr 8 = .clo 67 [.optr 2 0 0 0] ∧ H = [⟨0, 0, false, [], 0⟩, ⟨1, 0, false, [.omap 0 0], 81⟩, ⟨1, 0, false, [.p (.lst es)], 24⟩]) ?_ ?_).mono fun e w' ⟨v, r, H', c', he, hq, st, i', rp⟩ => ?_
  · rw [preV, rV]
    simp [vcs, LV, dk, kS, lf20, TkV_mu, TkV_fns, sBkV, wH]
  · rintro fr H c' w' a ⟨h3, h8, hH⟩ st iv sim hd
    have hsz : a.tmps.size = 17 := sim.1
    have rt := sim.2 8 (by rw [Tryz.ntmps20]; decide)
    rw [h8] at rt
    obtain ⟨v0, hv0, r0⟩ : ∃ v0, a.tmps.getD 8 undef = .func (.func 67) #[] #[v0] ∧ Rep c' (.optr 2 0 0 0) v0 := by
      generalize a.tmps.getD 8 undef = v at rt
      cases rt with
      | clo _ _ vs hl hr =>
        match vs, hl, hr with
        | [v0], _, hr => exact ⟨v0, rfl, hr 0 _ _ rfl rfl⟩
    have hk : H[2]? = some ⟨1, 0, false, [.p (.lst es)], 24⟩ := by rw [hH]; rfl
    obtain ⟨l, hl, he⟩ := iv.loc hk
    obtain ⟨hmp, g, cap, hp, rfl⟩ : l.mp = false ∧ ∃ g cap, l.place = some (g, cap) ∧ v0 = .pointer (some ⟨g, 0, none⟩) := by
      cases r0 with
      | optr _ _ _ _ l2 _ hl2 hv2 hh ho =>
        rw [hl] at hl2
        cases hl2
        obtain ⟨hm, g, cap, h1, h2⟩ := hh he.ver.symm
        exact ⟨hm, g, cap, h1, by simpa using h2⟩
    obtain ⟨cur, ty2, hh, _, _, _, hcur, _⟩ := he.there g cap hp hmp
    obtain ⟨sv, hsv, rsv⟩ := hcur 0 (.p (.lst es)) 0 (.p (.lst es)) rfl rfl
    simp only [Nat.zero_mul, Nat.zero_add] at hsv
    have hcell : w'.cell? ⟨g, 0, none⟩ = some sv := by
      unfold World.cell?
      simp [hh, hsv]
    obtain ⟨c1, e1, s1, i1, pm⟩ := iv.freeze1 2
    have hpr : c1.prot g 0 = some sv := (pm _ _ _ _ hk (by rw [e1]; exact hl) hp hmp 0 (by simp)).trans hcell
    have psv : PRep c1.prot (.lst es) sv := by
      cases rsv with
      | p _ _ h => exact h.mono s1.prot
    have hF : Abs.freeze1 H 2 = H0V gs es [] := by rw [hH]; rfl
    rw [hF] at i1
    obtain ⟨vals, hvals, hseq⟩ := bV_stops 5 g es hagg sv c1.prot (by omega) hpr psv w' (fun b o v hv => ⟨i1.prot b o v hv, i1.prot_lt hv⟩)
    have hval : ∀ k, k < es.length → ∃ us : List Value, vals k = .agg us.toArray ∧ us.length = 2 ∧ ∀ (j : Nat) z, (Vr.cells (gs.getD k dfV))[j]? = some z → ∃ v, us[j]? = some v ∧ PRep c1.prot z v := fun k hk => by
      have hg : gs[k]? = some (gs.getD k dfV) := by
        rw [List.getD_eq_getElem?_getD]
        rw [List.getElem?_eq_getElem (by omega)]
        rfl
      have hx : es[k]? = some (cVr.enc (gs.getD k dfV)) := by rw [hes, List.getElem?_map, hg]; rfl
      have := hvals k _ hx
      have he : cVr.enc (gs.getD k dfV) = .agg (Vr.cells (gs.getD k dfV)) := rfl
      rw [he] at this
      generalize vals k = vk at this
      cases this with
      | agg _ us hl hr hk =>
        refine ⟨us, rfl, hl, fun j z hz => ?_⟩
        have hj := (List.getElem?_eq_some_iff.1 hz).1
        exact ⟨us[j], by simp, hr j z _ hz (by simp)⟩
    obtain ⟨vx, hvx⟩ : ∃ vx : Nat → List Value, ∀ k, (vx k).length = 2 ∧ (∀ (j : Nat) z, (Vr.cells (gs.getD k dfV))[j]? = some z → ∃ v, (vx k)[j]? = some v ∧ PRep c1.prot z v) ∧ (k < es.length → vals k = .agg (vx k).toArray) := by
      have : ∀ k, ∃ us : List Value, us.length = 2 ∧ (∀ (j : Nat) z, (Vr.cells (gs.getD k dfV))[j]? = some z → ∃ v, us[j]? = some v ∧ PRep c1.prot z v) ∧ (k < es.length → vals k = .agg us.toArray) := fun k => by
        by_cases hk : k < es.length
        · obtain ⟨us, h1, h2, h3⟩ := hval k hk
          exact ⟨us, h2, h3, fun _ => h1⟩
        · refine ⟨zvV, rfl, ?_, fun h => absurd h hk⟩
          rw [List.getD_eq_getElem?_getD, List.getElem?_eq_none (by omega)]
          exact zvV_rep c1.prot
      exact ⟨fun k => (this k).choose, fun k => (this k).choose_spec⟩
    have eact : ∀ k : Nat, ({ tmps := ((#[9, 10] : Array Tmp).zip (#[Value.int .i64 (k : Int), .agg (vx k).toArray] : Array Value)).foldl (fun t (p, v) => t.setIfInBounds p v) a.tmps, defers := [] } : Act) = (a.put (some 9) (.int .i64 (k : Int))).put (some 10) (.agg (vx k).toArray) := fun k => by
      obtain ⟨tm, df⟩ := a
      simp only at hd
      subst hd
      simp [Act.put]
    have sim1 : Sim Tryz.f20.ntmps c1 fr a := sim.step s1
    have hz := nD zeroV
    obtain ⟨d, i, z, hu, hi, hzz, hzs, hsT⟩ := hz
    refine wp_mono (xq (n := Tryz.f20.ntmps) TkV_ok (ze (base := base)) i1 (m := 5) (lb := #[.pointer (some ⟨g, 0, none⟩)]) hv0 (enters_of Tryz.func67 (by kernel_rfl) rfl) (α := Nat) (encs := fun k => #[.int .i64 (k : Int), .agg (vx k).toArray]) (fun x => rfl)
      (hseq (fun k => k) (fun k hk => by rw [(hvx k).2.2 hk])) (p := 5) (size := 2) (ty := 29) (by omega) vx (fun k => cVr.enc (gs.getD k dfV)) (fun k => (hvx k).1) (fun k => rfl) (fun k z hz => ?_) (fun k => (hvx k).2.1)
      (fun k => put (put fr (some 9) (.p (.int .i64 (k : Int)))) (some 10) (.p (cVr.enc (gs.getD k dfV)))) (fun k => (a.put (some 9) (.int .i64 (k : Int))).put (some 10) (.agg (vx k).toArray)) (fun k => ⟨?_, by rw [put_defers, put_defers]; exact hd⟩)
      (fun l k W K hK => ?_) (H0V gs es) rfl (fun _ => rfl) (fun pre k e he => ?_) (fun pre => ?_) bV_plain (fun pre k hlt => ?_)
      (Q := fun e a2 w2 => e = .normal ∧ ∃ D fr2 H2 c2, a2.defers = [{ target := .collected D, args := #[] }] ∧ Step c1 w' c2 w2 ∧ Inv base c2 H2 w2 ∧ Sim Tryz.f20.ntmps c2 fr2 a2 ∧
          w2.heap[D]? = some (.deferred (some [])) ∧ w'.heap.size ≤ D ∧ vc TkV (zJ Tryz.prog gl0 Tryz.f20.ntmps cTV) (jI TkV lf20.results (fun r H => r = .omap 0 0 ∧ ∃ T', H = [⟨0, 0, false, kW (gs.map kvV), 0⟩] ++ T')) fr2 H2) ?_) ?_
    · simp only [cVr, dfV, PVal.cells] at hz
      simp only [List.mem_cons, List.not_mem_nil, or_false] at hz; rcases hz with rfl | rfl <;> rfl
    · refine (sim1.put (.p _ _ (.int _ _)) (some 9)).put (.p _ _ ?_) (some 10)
      obtain ⟨hl, hv, _⟩ := hvx k
      refine .agg _ _ hl (fun j z v h1 h2 => ?_) (fun z hz => ?_)
      · obtain ⟨v', h3, h4⟩ := hv j z h1
        rw [h2] at h3
        cases h3
        exact h4
      · simp only [dfV] at hz
        simp only [List.mem_cons, List.not_mem_nil, or_false] at hz; rcases hz with rfl | rfl <;> rfl
    · show cAV.wpIn (WR l) 4 Tryz.prog _ ({ tmps := ((#[9, 10] : Array Tmp).zip (#[Value.int .i64 (k : Int), .agg (vx k).toArray] : Array Value)).foldl (fun t (p, v) => t.setIfInBounds p v) a.tmps, defers := [] } : Act) W
      rw [eact, cAV_eq]
      refine tf zae.1 zae.2.1 zae.2.2 zac.1 zac.2.1 zac.2.2 hu hi hzz (by rw [hzs, hsT]) (by rw [hsT]; exact (hvx k).1) (fun v hv => ?_) (by simp [Act.put, hsz]) (by decide) (by simp [Act.put, hsz, Array.getD]) hK
      obtain ⟨j, hj, rfl⟩ := List.getElem_of_mem hv
      have hj' : j < (Vr.cells (gs.getD k dfV)).length := by rw [(hvx k).1] at hj; exact hj
      obtain ⟨v', h1, h2⟩ := (hvx k).2.1 j _ (List.getElem?_eq_getElem hj')
      rw [List.getElem?_eq_getElem hj] at h1
      cases h1
      refine (h2.one ?_).1
      have hz := List.getElem_mem hj'
      generalize (Vr.cells (gs.getD k dfV))[j] = z at hz
      simp only [Vr.cells, dfV] at hz
      simp only [List.mem_cons, List.not_mem_nil, or_false] at hz; rcases hz with rfl | rfl <;> rfl
    · match k, he with
      | 0, he => simp [H0V] at he; subst he; exact ⟨_, rfl, rfl, rfl⟩
      | 1, he => simp [H0V] at he; subst he; exact ⟨_, rfl, rfl, rfl⟩
      | 2, he => simp [H0V] at he; subst he; exact ⟨_, rfl, rfl, rfl⟩
      | k + 3, he => simp [H0V] at he
    · intro e he x hx y hy
      simp only [H0V, List.mem_cons, List.not_mem_nil, or_false] at he
      rcases he with rfl | rfl | rfl
      · have : ∃ k z, x = qh k z := by
          have hm : ∀ (pre : List Nat) (m : List AVal), (∀ x ∈ m, ∃ k z, x = qh k z) → ∀ x ∈ pre.foldl (fun m k => wU (kvV (gs.getD k dfV)).1 (kvV (gs.getD k dfV)).2 m) m, ∃ k z, x = qh k z := by
            intro pre
            induction pre with
            | nil => intro m hm; exact hm
            | cons a r ih => intro m hm; exact ih _ (uC _ _ m hm)
          exact hm pre [] (by simp) x hx
        obtain ⟨k, z, rfl⟩ := this
        simp only [qh, AVal.cells, PVal.cells, List.mem_map] at hy
        obtain ⟨u, _, rfl⟩ := hy
        exact .p _
      · simp at hx
        subst hx
        simp [AVal.cells] at hy
        subst hy
        exact .omap _ _ (by simp [H0V])
      · simp at hx
        subst hx
        simp [AVal.cells] at hy
        obtain ⟨u, _, rfl⟩ := hy
        exact .p _
    · rw [bV_low]
      simp [lBV, H0V, cVr, dfV, h3, List.foldl_append, kvV]
    · intro xs D c' w2 hS hD st2 iv2 hK
      subst hS
      refine ⟨rfl, D, fr, _, c', by simp [hd], st2, iv2, sim1.step st2, hK, hD, ?_⟩
      have hall := H0V_all gs
      rw [← hel] at hall
      rw [tV]
      simp only [H0V, hall]
      simp [LV, kS, lf20, h3, jI]
    · rintro e a2 w2 ⟨rfl, D, fr2, H2, c2, h1, h2, h3, h4, h5, h6, h7⟩
      exact ⟨rfl, D, fr2, H2, c2, h1, s1.trans h2, h3, h4, h5, h6, h7⟩
  · obtain ⟨rfl, T', rfl⟩ := hq
    obtain ⟨c2, s2, i2, r2⟩ := ij hloc st i' rp (fun e he x hx y hy => by
      simp at he
      subst he
      obtain ⟨k, z, rfl⟩ := uk _ x hx
      simp only [qh, AVal.cells, PVal.cells, List.mem_map] at hy
      obtain ⟨u, _, rfl⟩ := hy
      exact .p _) (.omap _ _ (by simp))
    exact ⟨v, c2, he, s2, i2, r2⟩
end
end Go.Proofs.YtgbjjikaenlkmaaGreat

namespace Go.Proofs.YtgbjjikaenlkmaaGreat
open Go Go.Abs Go.Limbs
variable {base : Prot}
set_option maxRecDepth 20000
attribute [local irreducible] vc
attribute [local simp] za zi freezeL fuel zk u64 au
def uM (a b : Va) : Bool := decide (a.k = b.k) && (if a.k = 0 then a.b == b.b else if a.k = 1 then xb a.x b.x else decide (a.el = b.el))
def ke (a b : Va) : Option PVal := some (.bool (uM a b))
def Tsv1 : Tab := Tab.none.with 81 (za (f2 vX))
theorem Tsv1_ok : TabOk Tryz.prog base Tsv1 := Tab.with_ok Tab.none_ok lalike_ok
theorem Tsv1_mu (f : FuncId) (a : List AVal) (H : zb) : Tsv1.mu f a H = none := (rfl)
theorem Tsv1_fns : Tsv1.fn 81 = (za (f2 vX)) := (rfl)
theorem eP : zG Tryz.prog base 49 (za (sp2 cVa cVa ke)) := by
 refine zd zB Tsv1_ok ze low49 fun args z hs hf => ?_
 obtain ⟨x, y, wx, wy, rfl, hz⟩ := kA hs
 cases hz
 have h1 := pe (g := vX) (show x.x.wf from wx) (show y.x.wf from wy)
 obtain ⟨k, b, ⟨s, n, d⟩, e⟩ := x
 obtain ⟨k', b', ⟨s', n', d'⟩, e'⟩ := y
 refine ⟨by simp [lf49], ?_⟩
 simp only [Fr.enc, vX] at h1
 simp only [cVa, Va.enc, Va.cells, uM]
 by_cases hk : k = k'
 ·subst hk
  by_cases k0 : k = 0
  ·subst k0
   cases b <;> cases b' <;> simp [lf49]
  ·have k0' : (k == 0) = false := by simpa using k0
   by_cases k1 : k = 1
   ·subst k1
    simp [lf49, h1, Tsv1_mu, Tsv1_fns]
   ·have k1' : (k == 1) = false := by simpa using k1
    simp [lf49, k0, k1, k0', k1', (show (e == e') = decide (e = e') from rfl)]
 ·have hk' : (k != k') = true := by simpa using hk
  simp [lf49, hk, hk']
def Tsv2 : Tab := Tab.none.with 36 (za (f2 vX))
theorem Tsv2_ok : TabOk Tryz.prog base Tsv2 := Tab.with_ok Tab.none_ok sk
theorem Tsv2_mu (f : FuncId) (a : List AVal) (H : zb) : Tsv2.mu f a H = none := (rfl)
theorem Tsv2_fns : Tsv2.fn 36 = (za (f2 vX)) := (rfl)
theorem rsamev_ok : zG Tryz.prog base 13 (za (sp2 cVa cVa ke)) := by
 refine zd zB Tsv2_ok ze low13 fun args z hs hf => ?_
 obtain ⟨x, y, wx, wy, rfl, hz⟩ := kA hs
 cases hz
 have h1 := pe (g := vX) (show x.x.wf from wx) (show y.x.wf from wy)
 obtain ⟨k, b, ⟨s, n, d⟩, e⟩ := x
 obtain ⟨k', b', ⟨s', n', d'⟩, e'⟩ := y
 refine ⟨by simp [lf13], ?_⟩
 simp only [Fr.enc, vX] at h1
 simp only [cVa, Va.enc, Va.cells, uM]
 by_cases hk : k = k'
 ·subst hk
  by_cases k0 : k = 0
  ·subst k0
   cases b <;> cases b' <;> simp [lf13]
  ·have k0' : (k == 0) = false := by simpa using k0
   by_cases k1 : k = 1
   ·subst k1
    simp [lf13, h1, Tsv2_mu, Tsv2_fns]
   ·have k1' : (k == 1) = false := by simpa using k1
    simp [lf13, k0, k1, k0', k1', (show (e == e') = decide (e = e') from rfl)]
 ·have hk' : (k != k') = true := by simpa using hk
  simp [lf13, hk, hk']
def wT : List Va → List Va → Bool
 | [], [] => true
 | a :: l, b :: m => uM a b && wT l m
 | _, _ => false
theorem rM : ∀ {l m : List Va}, wT l m = true → l.length = m.length
 | [], [], _ => rfl
 | a :: l, b :: m, h => by
  simp only [wT, Bool.and_eq_true] at h
  simp [rM h.2]
 | [], _ :: _, h => by cases h
 | _ :: _, [], h => by cases h
theorem dz : ∀ {l m : List Va}, l.length = m.length → (wT l m = true ↔ ∀ (i : Nat) a b, l[i]? = some a → m[i]? = some b → uM a b = true)
 | [], [], _ => by simp [wT]
 | a :: l, b :: m, h => by
  have ih := dz (l := l) (m := m) (by simpa using h)
  simp only [wT, Bool.and_eq_true, ih]
  constructor
  ·rintro ⟨h1, h2⟩ i x y hx hy
   cases i with
   | zero => simp at hx hy; subst hx; subst hy; exact h1
   | succ i => exact h2 i x y (by simpa using hx) (by simpa using hy)
  ·intro h
   exact ⟨h 0 a b rfl rfl, fun i x y hx hy => h (i + 1) x y (by simpa using hx) (by simpa using hy)⟩
 | [], _ :: _, h => by simp at h
 | _ :: _, [], h => by simp at h
def eW : List PVal → Option PVal
 | [.lst us, .lst vs, .clo 49 []] => match j0 cVa.dec us with
  | some l => (match j0 cVa.dec vs with | some m => some (.bool (wT l m)) | none => none)
  | none => none
 | _ => none
theorem sEqV_at {l m : List Va} (hl : cVa.wfL l) (hm : cVa.wfL m) : eW [.lst (l.map Va.enc), .lst (m.map Va.enc), .clo 49 []] = some (.bool (wT l m)) := by
 have h1 := cVa.deL l hl
 have h2 := cVa.deL m hm
 have e : cVa.enc = Va.enc := rfl
 rw [e] at h1 h2
 simp only [eW, h1, h2]
def Teqv : Tab := Tab.none.with 49 (za (sp2 cVa cVa ke))
theorem Teqv_ok : TabOk Tryz.prog base Teqv := Tab.with_ok Tab.none_ok eP
theorem Teqv_mu (f : FuncId) (a : List AVal) (H : zb) : Teqv.mu f a H = none := (rfl)
theorem lg : Teqv.fn 49 = (za (sp2 cVa cVa ke)) := (rfl)
theorem eqv_ok : zG Tryz.prog base 48 (za eW) := by
 refine zd zB Teqv_ok ze low48 fun args z hs hf => ?_
 unfold eW at hs
 split at hs
 case h_2 => cases hs
 rename_i us vs
 cases hl : j0 cVa.dec us with
 | none => rw [hl] at hs; cases hs
 | some l =>
 rw [hl] at hs
 cases hm : j0 cVa.dec vs with
 | none => rw [hm] at hs; cases hs
 | some m =>
 rw [hm] at hs
 cases hs
 obtain ⟨rfl, wl⟩ := cVa.edL _ _ hl
 obtain ⟨rfl, wm⟩ := cVa.edL _ _ hm
 have e : cVa.enc = Va.enc := rfl
 rw [e] at hf ⊢
 have hlen := (hf (.lst (l.map Va.enc)) (by simp)).lst.1
 unfold maxLen at hlen
 simp only [List.length_map] at hlen
 refine ⟨by simp [lf48], ?_⟩
 by_cases hlm : l.length = m.length
 ·have hl1 : ((l.length : Int) != m.length) = false := by simp [hlm]
  simp [lf48, hl1]
  simp only [lf48_B0, zr]
  refine zo (fun fr H => ∃ i : Nat, i ≤ l.length ∧ fr 1 = .p (.lst (m.map Va.enc)) ∧ fr 2 = .p (.clo 49 []) ∧ fr 15 = .p (.lst (l.map Va.enc)) ∧ fr 16 = .p (.int .i64 l.length) ∧ fr 17 = .p (.int .i64 i) ∧ ∀ (j : Nat) a b, j < i → l[j]? = some a → m[j]? = some b → uM a b = true) (fun fr _ => l.length - zD (fr 17)) ⟨0, by omega, by simp, by simp, by simp, by simp, by simp, by simp⟩ ?_
  rintro fr H ⟨i, hi, f1', f2', f15, f16, f17, hj⟩
  by_cases h : i < l.length
  ·obtain ⟨u, hx⟩ : ∃ u, l[i]? = some u := ⟨_, List.getElem?_eq_getElem h⟩
   have him : i < m.length := by omega
   obtain ⟨v, hy⟩ : ∃ v, m[i]? = some v := ⟨_, List.getElem?_eq_getElem him⟩
   have hnx := zZ hx
   have hny := zZ hy
   have hc := vD (g := ke) (wl u (List.mem_of_getElem? hx)) (wm v (List.mem_of_getElem? hy))
   simp only [e, Va.enc, Va.cells, ke] at hc
   have hw := zs (i := i) (by omega)
   cases he : uM u v with
   | true =>
    rw [he] at hc
    have hj' : ∀ (j : Nat) a b, j < i + 1 → l[j]? = some a → m[j]? = some b → uM a b = true := fun j a b hji ha hb => by
     by_cases hj0 : j = i
     ·subst hj0
      rw [hx] at ha
      rw [hy] at hb
      cases ha; cases hb
      exact he
     ·exact hj j a b (by omega) ha hb
    simp [f1', f2', f15, f16, f17, h, him, hnx, hny, Va.enc, Va.cells, hc, hw, zD, Teqv_mu, lg]
    exact ⟨⟨i + 1, by omega, rfl, hj'⟩, by omega⟩
   | false =>
    have hne : wT l m = false := by
     cases hh : wT l m with
     | false => rfl
     | true =>
      have := (dz hlm).1 hh i u v hx hy
      rw [he] at this
      cases this
    rw [he] at hc
    simp [f1', f2', f15, f16, f17, h, him, hnx, hny, Va.enc, Va.cells, hc, hne, Teqv_mu, lg]
  ·have hil : i = l.length := by omega
   subst hil
   have hxy : wT l m = true := (dz hlm).2 fun i a b ha hb => hj i a b (List.getElem?_eq_some_iff.1 ha).1 ha hb
   simp [f16, f17, hxy]
 ·have hl1 : ((l.length : Int) != m.length) = true := by simp; omega
  have hne : wT l m = false := by
   cases hh : wT l m with
   | false => rfl
   | true => exact absurd (rM hh) hlm
  simp [lf48, hl1, hne]
def sR : List AVal → Option (List Int)
 | [] => some []
 | .p (.int .i64 n) :: r => match sR r with | some l => some (n :: l) | none => none
 | _ :: _ => none
theorem sQ : ∀ {es : List AVal} {l : List Int}, sR es = some l → es = l.map fun n => .p (.int .i64 n)
 | [], l, h => by cases h; rfl
 | x :: r, l, h => by
  unfold sR at h
  split at h
  ·rename_i heq; cases heq
  ·rename_i n r' heq
   cases heq
   split at h
   ·rename_i m hm
    cases h
    rw [List.map_cons, ← sQ hm]
   ·cases h
  ·cases h
theorem xM : ∀ l : List Int, sR (l.map fun n => .p (.int .i64 n)) = some l
 | [] => rfl
 | n :: r => by simp [sR, xM r]
def dl (es : List AVal) : List Int → Option (List Va)
 | [] => some []
 | n :: r => match wJ n es with
  | some y => (match cVa.dec y with
   | some v => (match dl es r with | some l => some (v :: l) | none => none)
   | none => none)
  | none => none
theorem cN {es : List AVal} : ∀ {ids : List Int} {vs : List Va}, dl es ids = some vs → vs.length = ids.length ∧ cVa.wfL vs ∧ ∀ (i : Nat) n v, ids[i]? = some n → vs[i]? = some v → wJ n es = some v.enc
 | [], vs, h => by
  cases h
  exact ⟨rfl, (by intro x hx; cases hx), by simp⟩
 | n :: r, vs, h => by
  unfold dl at h
  split at h
  ·rename_i y hy
   split at h
   ·rename_i v hv
    split at h
    ·rename_i l hl
     cases h
     obtain ⟨h1, h2, h3⟩ := cN hl
     obtain ⟨rfl, wv⟩ := cVa.ed _ _ hv
     refine ⟨by simp [h1], ?_, ?_⟩
     ·intro x hx
      rcases List.mem_cons.1 hx with rfl | hx
      ·exact wv
      ·exact h2 x hx
     ·intro i m u hm hu
      cases i with
      | zero => simp at hm hu; subst hm; subst hu; exact hy
      | succ i => exact h3 i m u (by simpa using hm) (by simpa using hu)
    ·cases h
   ·cases h
  ·cases h
def rP : List AVal → zb → Option (AVal × zb)
 | [.omap j ver, .own k 0 n v], H => match H[j]? with
  | some e => (match H[k]? with
   | some f => if e.ver = ver ∧ f.ver = v ∧ f.size = 1 ∧ n = f.elems.length ∧ n ≤ 1000000 ∧ 0 < n then
     (match sR f.elems with
     | some ids => (match dl e.elems ids with
      | some vs => some (.p (.tup [.lst (vs.map Va.enc), .bool true]), H)
      | none => none)
     | none => none)
    else none
   | none => none)
  | none => none
 | _, _ => none
theorem vals_ok : bq Tryz.prog base 27 rP := by
 refine l9 zB Tab.none_ok ze low27 fun args H r H' hs hf hb => ?_
 unfold rP at hs
 split at hs
 case h_2 => cases hs
 rename_i j ver k n v
 cases hj : H[j]? with
 | none => rw [hj] at hs; cases hs
 | some e =>
 rw [hj] at hs
 simp only at hs
 cases hk : H[k]? with
 | none => rw [hk] at hs; cases hs
 | some f =>
 rw [hk] at hs
 simp only at hs
 split at hs
 case isFalse => cases hs
 rename_i hc
 cases hi : sR f.elems with
 | none => rw [hi] at hs; cases hs
 | some ids =>
 rw [hi] at hs
 simp only at hs
 cases hl : dl e.elems ids with
 | none => rw [hl] at hs; cases hs
 | some vs =>
 rw [hl] at hs
 cases hs
 obtain ⟨h1, h2, h3, h4, h5, h6⟩ := hc
 have hfe := sQ hi
 obtain ⟨l1, l2, l3⟩ := cN hl
 obtain ⟨fs, fv, ff, fe, ft⟩ := f
 simp only at h2 h3 h4 hfe
 subst h2 h3 hfe h1
 simp only [List.length_map] at h4
 subst h4
 refine ⟨by simp [lf27], rfl, hb, _, rfl, ?_⟩
 have hkl := (List.getElem?_eq_some_iff.1 hk).1
 have hjl := (List.getElem?_eq_some_iff.1 hj).1
 simp [lf27, hk]
 simp only [lf27_B0, zr]
 refine zo (fun fr G => ∃ i : Nat, i ≤ ids.length ∧ (∃ E, G = H ++ E) ∧ fr 0 = .omap j e.ver ∧ fr 10 = .own k 0 ids.length fv ∧ fr 11 = .p (.int .i64 ids.length) ∧ fr 12 = .p (.int .i64 i) ∧
  ((i = 0 ∧ fr 4 = .tight []) ∨ (0 < i ∧ ∃ m w, H.length ≤ m ∧ fr 4 = .own m 0 i w ∧ G[m]? = some ⟨6, w, false, (vs.take i).map (fun v => .p v.enc), 35⟩))) (fun fr _ => ids.length - zD (fr 12)) ⟨0, by omega, ⟨[], by simp⟩, by simp, by simp, by simp, by simp, .inl ⟨rfl, by simp⟩⟩ ?_
 rintro fr G ⟨i, hi', ⟨E, hE⟩, f0, f10, f11, f12, f4⟩
 have hGj : G[j]? = some e := by rw [hE, List.getElem?_append_left hjl]; exact hj
 have hGk : G[k]? = some ⟨1, fv, ff, ids.map (fun n => .p (.int .i64 n)), ft⟩ := by rw [hE, List.getElem?_append_left hkl]; exact hk
 have hjG : j < G.length := (List.getElem?_eq_some_iff.1 hGj).1
 have hkG : k < G.length := (List.getElem?_eq_some_iff.1 hGk).1
 by_cases h : i < ids.length
 ·obtain ⟨u, hx⟩ : ∃ u, ids[i]? = some u := ⟨_, List.getElem?_eq_getElem h⟩
  obtain ⟨y, hy⟩ : ∃ y, vs[i]? = some y := ⟨_, List.getElem?_eq_getElem (by omega)⟩
  have hnx := zZ hx
  have hmf := l3 i u y hx hy
  have hw := zs (i := i) (by omega)
  have hA : ∀ X, (G ++ X)[j]? = some e := fun X => by rw [List.getElem?_append_left hjG]; exact hGj
  have hC : ∀ x y : Ent, (G ++ [x]).set G.length y = G ++ [y] := fun x y => by rw [List.set_append_right _ _ (Nat.le_refl _)]; simp
  have hD : ∀ (y : Ent) r, (G ++ y :: r)[G.length]? = some y := fun y r => by simp
  have hE' : ∀ (y z : Ent) r, (G ++ y :: z :: r)[G.length + 1]? = some z := fun y z r => by rw [List.getElem?_append_right (by omega)]; simp
  have ht : (vs.take (i + 1)).map (fun v => (AVal.p v.enc)) = (vs.take i).map (fun v => .p v.enc) ++ [.p y.enc] := by rw [List.take_add_one, hy]; simp
  obtain ⟨ky, by', ⟨sy, ny, dy⟩, ey⟩ := y
  simp only [Va.enc, Va.cells] at hmf
  have hye : (AVal.p (Va.enc ⟨ky, by', ⟨sy, ny, dy⟩, ey⟩)) = .p (.agg [.int .i64 ky, .bool by', .bool sy, .lst (ny.map u64), .lst (dy.map u64), .int .i64 ey]) := rfl
  rw [hye] at ht
  obtain ⟨xs, hxs⟩ : ∃ t, t = ny.map u64 := ⟨_, rfl⟩
  obtain ⟨ys, hys⟩ : ∃ t, t = dy.map u64 := ⟨_, rfl⟩
  rw [← hxs, ← hys] at hmf ht
  have hmx : maxLen = 9223372036854775807 := rfl
  have hb1 : 1 ≤ maxLen := by omega
  obtain ⟨nn, hnn⟩ : ∃ nn, nn = ids.length := ⟨_, rfl⟩
  rw [← hnn] at h h5 h6 l1 hi' f10 f11 ⊢
  rcases f4 with ⟨rfl, f4⟩ | ⟨hi0, m, w, hm, f4, hGm⟩
  ·simp only [Nat.zero_add] at ht hw
   have hw1 : IntKind.i64.wrap 1 = 1 := IntWalk.i64_in _ (by omega)
   have hlG : H.length ≤ G.length + 2 := by rw [hE, List.length_append]; omega
   simp [f0, f10, f11, f12, f4, h, hGj, hGk, hx, hmf, hC, zN, hb1, zD, hw1]
   refine ⟨⟨1, by omega, ⟨E ++ [_, _, _], by rw [hE, List.append_assoc]⟩, rfl, by omega, _, hlG, _, ⟨rfl, rfl, rfl⟩, ?_⟩, by omega⟩
   rw [List.getElem?_append_right (by omega)]
   simp
   rw [← List.map_take, ht]
   rfl
  ·obtain ⟨L, hL⟩ : ∃ L, L = (vs.take i).map (fun v => (AVal.p v.enc)) := ⟨_, rfl⟩
   have hLl : L.length = i := by rw [hL]; simp; omega
   rw [← hL] at hGm ht
   have hmG : m < G.length := (List.getElem?_eq_some_iff.1 hGm).1
   have hM : ∀ X, (G ++ X)[m]? = some ⟨6, w, false, L, 35⟩ := fun X => by rw [List.getElem?_append_left hmG]; exact hGm
   have hb2 : (i + 1) * 80 ≤ 140737488355328 := by omega
   have hb3 : i + 1 ≤ maxLen := by omega
   simp [f0, f10, f11, f12, f4, h, hGj, hGk, hx, hmf, hw, hC, zN, hM, hLl, hb2, hb3, zD]
   refine ⟨⟨i + 1, by omega, ⟨_, by rw [hE, List.append_assoc, List.set_append_right _ _ hm]⟩, rfl, by omega, m, hm, _, ⟨rfl, rfl, rfl⟩, ?_⟩, by omega⟩
   rw [List.getElem?_set_self (by simp; omega), ← List.map_take, ht]
 ·have hil : i = ids.length := by omega
  subst hil
  rcases f4 with ⟨h0, f4⟩ | ⟨hi0, m, w, hm, f4, hGm⟩
  ·omega
  ·have hvt : vs.take ids.length = vs := List.take_of_length_le (by omega)
   rw [hvt] at hGm
   have hres : ∀ (n : Nat) (l : List Va), zP (zj G n) (l.map fun v => (AVal.p v.enc)) = some (l.map Va.enc) := fun n l => by
    induction l with
    | nil => rfl
    | cons a r ih => simp [zP, ih, zj]
   have htch : ∀ (n : Nat) (l : List Va), (l.map fun v => (AVal.p v.enc)).flatMap (zi G n) = [] := fun n l => by
    induction l with
    | nil => rfl
    | cons a r ih => rw [List.map_cons, List.flatMap_cons, ih]; cases n <;> simp [zi]
   simp [f11, f12, f4]
   refine ⟨.tup [.own m 0 ids.length w, .p (.bool true)], E, ?_, hE, ?_, ?_⟩
   ·simp [finish, zP, qT, j3]
   ·simp [zj, zP, hGm, l1, hres, List.take_of_length_le]
   ·simp [zi, hGm, htch, hm, List.take_of_length_le, l1]
theorem bd (H l : zb) (i : Nat) : (H ++ l)[H.length + i]? = l[i]? := by rw [List.getElem?_append_right (by omega)]; congr 1; omega
theorem qt (H l : zb) : (H ++ l)[H.length]? = l[0]? := bd H l 0
def np (es : List AVal) (a b : Md) : Option Bool :=
 if a.f = b.f ∧ a.ag.length = b.ag.length then
  match dl es (a.id :: a.ag) with
  | some (x :: xs) => (match dl es (b.id :: b.ag) with
   | some (y :: ys) => some (wT xs ys && !uM x y)
   | _ => none)
  | _ => none
 else some false
def Md.few (m : Md) : Bool := decide (m.ag.length < 100000)
def sb : List AVal → zb → Option (AVal × zb)
 | [.omap j ver, .p a, .p b], H => match H[j]? with
  | some e => if e.ver = ver then
    (match cMd.dec a with
    | some x => (match cMd.dec b with
     | some y => if (x.few && y.few) = true then
       (match np e.elems x y with
       | some r => some (.p (.bool r), H)
       | none => none)
      else none
     | none => none)
    | none => none)
   else none
  | none => none
 | _, _ => none
def Tcl0 : Tab := (Tab.none.with 48 (za eW)).with 49 (za (sp2 cVa cVa ke))
theorem Tcl0_ok : TabOk Tryz.prog base Tcl0 := Tab.with_ok (Tab.with_ok Tab.none_ok eqv_ok) eP
def Tcl : Tab := Tcl0.own 27 rP
theorem Tcl_ok : TabOk Tryz.prog base Tcl := Tab.own_ok Tcl0_ok vals_ok
theorem Tcl_fns : Tcl.fn 48 = za eW ∧ Tcl.fn 49 = za (sp2 cVa cVa ke) := ⟨rfl, rfl⟩
def lI := rP
theorem Tcl_mu (a : List AVal) (H : zb) : Tcl.mu 27 a H = lI a H ∧ Tcl.mu 48 a H = none ∧ Tcl.mu 49 a H = none := ⟨rfl, rfl, rfl⟩
theorem eS {H : zb} {j k ver v n : Nat} {e : Ent} {fz : Bool} {ty : TypeId} {ids : List Int} {vs : List Va} {es : List AVal} (hj : H[j]? = some e) (hv : e.ver = ver) (hk : H[k]? = some ⟨1, v, fz, es, ty⟩) (he : es = ids.map (fun n => .p (.int .i64 n))) (hn : n = ids.length) (h1 : ids.length ≤ 1000000) (h0 : 0 < ids.length)
  (hl : dl e.elems ids = some vs) : rP [.omap j ver, .own k 0 n v] H = some (.p (.tup [.lst (vs.map Va.enc), .bool true]), H) := by
 subst he hn
 simp only [rP, hj, hk]
 rw [if_pos ⟨hv, trivial, trivial, by simp, h1, h0⟩]
 simp only [xM, hl]
theorem clash_ok : bq Tryz.prog base 25 sb := by
 refine wC zB Tcl_ok ze low25 fun args H r H' hs hf hb => ?_
 unfold sb at hs
 split at hs
 case h_2 => cases hs
 rename_i j ver a b
 cases hj : H[j]? with
 | none => rw [hj] at hs; cases hs
 | some e =>
 rw [hj] at hs
 simp only at hs
 split at hs
 case isFalse => cases hs
 rename_i hver
 cases ha : cMd.dec a with
 | none => rw [ha] at hs; cases hs
 | some x =>
 rw [ha] at hs
 simp only at hs
 cases hbb : cMd.dec b with
 | none => rw [hbb] at hs; cases hs
 | some y =>
 rw [hbb] at hs
 simp only at hs
 split at hs
 case isFalse => cases hs
 rename_i hfew
 cases hcl : np e.elems x y with
 | none => rw [hcl] at hs; cases hs
 | some q =>
 rw [hcl] at hs
 cases hs
 obtain ⟨rfl, _⟩ := cMd.ed _ _ ha
 obtain ⟨rfl, _⟩ := cMd.ed _ _ hbb
 refine ⟨by simp [lf25], rfl, hb, .p _, ?_⟩
 obtain ⟨xi, xf, xa⟩ := x
 obtain ⟨yi, yf, ya⟩ := y
 simp only [Md.few, Bool.and_eq_true, decide_eq_true_eq] at hfew
 obtain ⟨few1, few2⟩ := hfew
 unfold np at hcl
 simp only [cMd]
 by_cases hne : xf = yf ∧ xa.length = ya.length
 ·rw [if_pos hne] at hcl
  obtain ⟨rfl, hla⟩ := hne
  cases hx : dl e.elems (xi :: xa) with
  | none => simp only [hx] at hcl; cases hcl
  | some vx =>
  simp only [hx] at hcl
  cases vx with
  | nil => simp at hcl
  | cons x0 xs =>
  simp only at hcl
  cases hy : dl e.elems (yi :: ya) with
  | none => simp only [hy] at hcl; cases hcl
  | some vy =>
  simp only [hy] at hcl
  cases vy with
  | nil => simp at hcl
  | cons y0 ys =>
  simp only [Option.some.injEq] at hcl
  obtain ⟨m1, w1, -⟩ := cN hx
  obtain ⟨m2, w2, -⟩ := cN hy
  have e0 : cVa.enc = Va.enc := rfl
  have hS := vD (g := ke) (w1 x0 (by simp)) (w2 y0 (by simp))
  have hE := sEqV_at (fun z hz => w1 z (by simp [hz])) (fun z hz => w2 z (by simp [hz])) (l := xs) (m := ys)
  rw [e0] at hS
  have hso : ∀ l : List Va, u3 6 (l.map Va.enc) = true := fun l => by
   unfold u3
   rw [List.all_eq_true]
   intro z hz
   obtain ⟨v, _, rfl⟩ := List.mem_map.1 hz
   rfl
  have hbs : dV .neq xf xf = some (.bool false) := by simp [dV]
  have hmx : maxLen = 9223372036854775807 := rfl
  have hb1 : 1 + ya.length ≤ maxLen := by omega
  have hb2 : (1 + ya.length) * 8 ≤ 140737488355328 := by omega
  have hv1 : ∀ (c1 c2 : Ent) X, lI [.omap j ver, .own (H.length + 2) 0 (1 + ya.length) 1] (H ++ c1 :: c2 :: ⟨1, 1, false, .p (.int .i64 xi) :: xa.map fun n => .p (.int .i64 n), 3⟩ :: X) =
    some (.p (.tup [.lst (x0.enc :: xs.map Va.enc), .bool true]), H ++ c1 :: c2 :: ⟨1, 1, false, .p (.int .i64 xi) :: xa.map fun n => .p (.int .i64 n), 3⟩ :: X) := fun c1 c2 X =>
   eS (by rw [List.getElem?_append_left (List.getElem?_eq_some_iff.1 hj).1]; exact hj) hver (bd _ _ 2) (ids := xi :: xa) rfl (by simp [hla]; omega) (by simp; omega) (by simp) hx
  have hv2 : ∀ (c1 c2 c3 : Ent) X, lI [.omap j ver, .own (H.length + 3) 0 (1 + ya.length) 1] (H ++ c1 :: c2 :: c3 :: ⟨1, 1, false, .p (.int .i64 yi) :: ya.map fun n => .p (.int .i64 n), 3⟩ :: X) =
    some (.p (.tup [.lst (y0.enc :: ys.map Va.enc), .bool true]), H ++ c1 :: c2 :: c3 :: ⟨1, 1, false, .p (.int .i64 yi) :: ya.map fun n => .p (.int .i64 n), 3⟩ :: X) := fun c1 c2 c3 X =>
   eS (by rw [List.getElem?_append_left (List.getElem?_eq_some_iff.1 hj).1]; exact hj) hver (bd _ _ 3) (ids := yi :: ya) rfl (by simp; omega) (by simp; omega) (by simp) hy
  have hint : cI.enc = fun n => .int .i64 n := rfl
  rw [hint]
  have hmm : ∀ l : List Int, (l.map ((AVal.p) ∘ fun n => PVal.int .i64 n)) = l.map fun n => .p (.int .i64 n) := fun l => rfl
  have hso1 := hso (x0 :: xs)
  have hso2 := hso (y0 :: ys)
  simp only [List.map_cons] at hso1 hso2
  simp only [Va.enc, Va.cells] at hso1 hso2 hS
  have g1 : (1 : Int) ≤ (xs.length : Int) + 1 := by omega
  have g2 : (1 : Int) ≤ (ys.length : Int) + 1 := by omega
  have g3 : List.take xs.length (xs.map Va.enc) = xs.map Va.enc := List.take_of_length_le (by simp)
  have g4 : List.take ys.length (ys.map Va.enc) = ys.map Va.enc := List.take_of_length_le (by simp)
  cases hq1 : wT xs ys <;> cases hq2 : uM x0 y0 <;> rw [hq1, hq2] at hcl <;> cases hcl <;> rw [hq1] at hE <;> (simp only [ke, hq2] at hS) <;> (simp [lf25, hla, zN, Tcl_mu, Tcl_fns, hbs, hb1, hb2, hv1, hv2, hmm, Va.enc, Va.cells, hso1, hso2, hE, hS, g1, g2, g3, g4, yS, finish, zP, qT, j3])
 ·rw [if_neg hne] at hcl
  cases hcl
  have hne' : xf = yf → ¬ xa.length = ya.length := fun h1 h2 => hne ⟨h1, h2⟩
  by_cases hff : xf = yf
  ·have hll : ((xa.length : Int) != ya.length) = true := by simp; have := hne' hff; omega
   have hbs : dV .neq yf yf = some (.bool false) := by simp [dV]
   simp [lf25, hff, hll, hbs, yS, finish, zP, qT]
  ·have hbs : dV .neq xf yf = some (.bool true) := by simp [dV, hff]
   simp [lf25, hbs, yS, finish, zP, qT]
def cf (es : List AVal) (a : Md) : List Md → Nat → Option (Option Nat)
 | [], _ => some none
 | b :: r, j => match np es a b with
  | some true => some (some j)
  | some false => cf es a r (j + 1)
  | none => none
def uG (es : List AVal) : List Md → Nat → Option (Option (Nat × Nat))
 | [], _ => some none
 | a :: r, i => match cf es a r (i + 1) with
  | some (some j) => some (some (i, j))
  | some none => uG es r (i + 1)
  | none => none
def trip : Option (Nat × Nat) → PVal
 | some (i, j) => .tup [.int .i64 i, .int .i64 j, .bool true]
 | none => .tup [.int .i64 0, .int .i64 0, .bool false]
def bk (ms : List Md) (gs : List Gv) : Option PVal :=
 if (ms.all Md.few && decide (ms.length ≤ 1000000) && decide (gs.length ≤ 1000000)) = true then
  match uG (kW (gs.map kvG)) ms 0 with
  | some r => some (trip r)
  | none => none
 else none
def Tca0 : Tab := Tab.none.with 24 rR
theorem Tca0_ok : TabOk Tryz.prog base Tca0 := Tab.with_ok Tab.none_ok tabG_ok
def Tca : Tab := Tca0.own 25 sb
theorem Tca_ok : TabOk Tryz.prog base Tca := Tab.own_ok Tca0_ok clash_ok
theorem Tca_fns : Tca.fn 24 = rR := rfl
def fE := sb
theorem Tca_mu (a : List AVal) (H : zb) : Tca.mu 25 a H = fE a H ∧ Tca.mu 24 a H = none := ⟨rfl, rfl⟩
theorem sClash_at {G : zb} {e : Ent} {x y : Md} {q : Bool} (h0 : G[0]? = some e) (hv : e.ver = 0) (h1 : x.few = true) (h2 : y.few = true) (hq : np e.elems x y = some q) : fE [.omap 0 0, .p (cMd.enc x), .p (cMd.enc y)] G = some (.p (.bool q), G) := by
 simp only [fE, sb, h0, cMd.de x trivial, cMd.de y trivial]
 rw [if_pos hv, if_pos (by simp [h1, h2])]
 simp only [hq]
theorem sTabG_at {gs : List Gv} (h : gs.length ≤ 1000000) (w : cGv.wfL gs) : rR [.lst (gs.map cGv.enc)] = some (.omap 0 0, [⟨0, 0, false, kW (gs.map kvG), 0⟩]) := by
 simp only [rR, cGv.deL gs w]
 rw [if_pos (by omega)]
theorem ru (n : Nat) (l : List (Int × PVal)) : (kW l).map (zk n) = kW l := by
 have h := uk l
 generalize kW l = m at h
 induction m with
 | nil => rfl
 | cons x r ih =>
  obtain ⟨k, z, rfl⟩ := h x (by simp)
  rw [List.map_cons, ih (fun x hx => h x (by simp [hx]))]
  simp [qh, zk]
theorem tM : zG Tryz.prog base 10 (za (sp2 cMd.lst cGv.lst bk)) := by
 refine zd zB Tca_ok ze low10 fun args z hs hf => ?_
 obtain ⟨ms, gs, wm, wg, rfl, hz⟩ := kA hs
 unfold bk at hz
 split at hz
 case isFalse => cases hz
 rename_i hc
 simp only [Bool.and_eq_true, decide_eq_true_eq, List.all_eq_true] at hc
 obtain ⟨⟨hfew, hml⟩, hgl⟩ := hc
 obtain ⟨es, hes⟩ : ∃ es, es = kW (gs.map kvG) := ⟨_, rfl⟩
 have ht := sTabG_at hgl wg
 rw [← hes] at ht hz
 cases hr : uG es ms 0 with
 | none => rw [hr] at hz; cases hz
 | some r =>
 rw [hr] at hz
 cases hz
 refine ⟨by simp [lf10], ?_⟩
 simp only [Cd.lst]
 have hsh : es.map (zk 0) = es := by rw [hes]; exact ru 0 _
 simp [lf10, ht, Tca_mu, Tca_fns, wH, -zk, hsh]
 simp only [lf10_B1, zr]
 refine zo (fun fr G => ∃ i : Nat, i ≤ ms.length ∧ G[0]? = some ⟨0, 0, false, es, 0⟩ ∧ fr 0 = .p (.lst (ms.map cMd.enc)) ∧ fr 7 = .omap 0 0 ∧ fr 13 = .p (.lst (ms.map cMd.enc)) ∧ fr 14 = .p (.int .i64 ms.length) ∧ fr 15 = .p (.int .i64 i) ∧ uG es (ms.drop i) i = some r) (fun fr _ => ms.length - zD (fr 15)) ⟨0, by omega, by simp, by simp, by simp, by simp, by simp, by simp, by simpa using hr⟩ ?_
 rintro fr G ⟨i, hi, hG, f0, f7, f13, f14, f15, hcl⟩
 by_cases h : i < ms.length
 ·obtain ⟨a, ha⟩ : ∃ a, ms[i]? = some a := ⟨_, List.getElem?_eq_getElem h⟩
  have hna := zZ ha
  have hw := zs (i := i) (by omega)
  have hfa := hfew a (List.mem_of_getElem? ha)
  have hdr : ms.drop i = a :: ms.drop (i + 1) := by rw [List.drop_eq_getElem_cons h, hna]
  rw [hdr] at hcl
  simp only [uG] at hcl
  have hGl : 0 < G.length := (List.getElem?_eq_some_iff.1 hG).1
  have hea : cMd.enc a = .agg [.int .i64 a.id, .str a.f, .lst (a.ag.map cI.enc)] := rfl
  simp [f13, f14, f15, h, hna, hw, hea]
  simp only [lf10_B0, zr]
  refine zo (fun fr G' => ∃ j : Nat, i + 1 ≤ j ∧ j ≤ ms.length ∧ G'[0]? = some ⟨0, 0, false, es, 0⟩ ∧ G'[G.length]? = some ⟨3, 0, false, [.p (.agg [.int .i64 a.id, .str a.f, .lst (a.ag.map cI.enc)])], 26⟩ ∧
   fr 0 = .p (.lst (ms.map cMd.enc)) ∧ fr 7 = .omap 0 0 ∧ fr 8 = .p (.int .i64 i) ∧ fr 9 = .optr G.length 0 0 0 ∧ fr 10 = .p (.int .i64 j) ∧ fr 13 = .p (.lst (ms.map cMd.enc)) ∧ fr 14 = .p (.int .i64 ms.length) ∧ fr 15 = .p (.int .i64 i) ∧
   (match cf es a (ms.drop j) j with | some (some j) => some (some (i, j)) | some none => uG es (ms.drop (i + 1)) (i + 1) | none => none) = some r) (fun fr _ => ms.length - zD (fr 10)) ⟨i + 1, by omega, by omega, by rw [List.getElem?_append_left hGl]; exact hG, by simp, by simp [f0], by simp [f7], by simp, by simp, by simp, by simp [f13], by simp [f14], by simp [f15], hcl⟩ ?_
  rintro fr2 G2 ⟨j, hij, hj, g0, gA, k0, k7, k8, k9, k10, k13, k14, k15, hrow⟩
  by_cases hjl : j < ms.length
  ·obtain ⟨b, hb⟩ : ∃ b, ms[j]? = some b := ⟨_, List.getElem?_eq_getElem hjl⟩
   have hnb := zZ hb
   have hwj := zs (i := j) (by omega)
   have hfb := hfew b (List.mem_of_getElem? hb)
   have hdrj : ms.drop j = b :: ms.drop (j + 1) := by rw [List.drop_eq_getElem_cons hjl, hnb]
   rw [hdrj] at hrow
   simp only [cf] at hrow
   have heb : cMd.enc b = .agg [.int .i64 b.id, .str b.f, .lst (b.ag.map cI.enc)] := rfl
   cases hcv : np es a b with
   | none => rw [hcv] at hrow; cases hrow
   | some q =>
    rw [hcv] at hrow
    have hc := sClash_at g0 rfl hfa hfb hcv
    rw [hea, heb] at hc
    cases q with
    | true =>
     simp only [Option.some.injEq] at hrow
     subst hrow
     simp [k0, k7, k8, k9, k10, hjl, hnb, heb, gA, hc, Tca_mu, trip]
    | false =>
     simp only at hrow
     simp [k0, k7, k8, k9, k10, k13, k14, k15, hjl, hnb, heb, gA, g0, hc, Tca_mu, hwj, zD]
     exact ⟨⟨j + 1, by omega, by omega, rfl, hrow⟩, by omega⟩
  ·have hjj : j = ms.length := by omega
   subst hjj
   rw [List.drop_of_length_le (Nat.le_refl _)] at hrow
   simp only [cf] at hrow
   simp [k0, k7, k10, k13, k14, k15, g0, hw, zD]
   exact ⟨⟨i + 1, by omega, rfl, hrow⟩, by omega⟩
 ·have hil : i = ms.length := by omega
  subst hil
  rw [List.drop_of_length_le (Nat.le_refl _)] at hcl
  simp only [uG, Option.some.injEq] at hcl
  subst hcl
  simp [f14, f15, trip]
def zVa : Va := ⟨0, false, zF, 0⟩
def qj (s n : Int) : Va := if s = 0 then ⟨0, decide (n = 1), zF, 0⟩ else if s = 1 then ⟨1, false, ofQ (Rat.divInt n 1), 0⟩ else ⟨s, false, zF, n⟩
theorem fc (s n : Int) : (qj s n).x.wf := by
 unfold qj
 split
 ·exact br
 ·split
  ·exact wS _
  ·exact br
def pB (s n : Int) : Option PVal := if -1000 ≤ n ∧ n ≤ 1000 then some (qj s n).enc else none
def Tval : Tab := Tab.none.with 19 (za uK)
theorem Tval_ok : TabOk Tryz.prog base Tval := Tab.with_ok Tab.none_ok gI
theorem Tval_mu (f : FuncId) (a : List AVal) (H : zb) : Tval.mu f a H = none := (rfl)
theorem Tval_fns : Tval.fn 19 = (za uK) := (rfl)
theorem value_ok' : zG Tryz.prog base 8 (za (sp2 cI cI pB)) := by
 refine zd zB Tval_ok ze low8 fun args z hs hf => ?_
 obtain ⟨s, n, -, -, rfl, hz⟩ := kA hs
 unfold pB at hz
 split at hz
 case isFalse => cases hz
 rename_i hn
 cases hz
 refine ⟨by simp [lf8], ?_⟩
 have o1 := ofR (n := n) (d := 1) ⟨hn, by decide⟩
 simp only [cI, qj]
 by_cases h0 : s = 0
 ·subst h0
  simp [lf8, Va.enc, Va.cells, zF, qA]
  rfl
 ·have h0' : (s == 0) = false := by simpa using h0
  by_cases h1 : s = 1
  ·subst h1
   obtain ⟨x, hx⟩ : ∃ x, x = ofQ (Rat.divInt n 1) := ⟨_, rfl⟩
   rw [← hx] at o1 ⊢
   simp only [Fr.enc] at o1
   simp [lf8, Va.enc, Va.cells, o1, qA, Tval_mu, Tval_fns]
  ·have h1' : (s == 1) = false := by simpa using h1
   simp [lf8, h0, h1, h0', h1', Va.enc, Va.cells, zF, qA]
def qc (n : Int) : List Gv → Va
 | [] => zVa
 | g :: r => if g.id = n then g.v else qc n r
def sL (gs : List Gv) (n : Int) : Option PVal := some (qc n gs).enc
theorem gQ (n : Int) : ∀ gs : List Gv, cGv.wfL gs → (qc n gs).x.wf
 | [], _ => br
 | g :: r, h => by
  unfold qc
  split
  ·exact h g (by simp)
  ·exact gQ n r (fun x hx => h x (by simp [hx]))
theorem dN (n : Int) : ∀ (gs : List Gv) (i : Nat), (∀ g ∈ gs.take i, g.id ≠ n) → qc n gs = qc n (gs.drop i)
 | gs, 0, _ => rfl
 | [], i + 1, _ => rfl
 | g :: r, i + 1, h => by
  have h1 : g.id ≠ n := h g (by simp)
  have h2 := dN n r i (fun x hx => h x (by simp [hx]))
  simp [qc, h1, h2]
theorem look_ok : zG Tryz.prog base 16 (za (sp2 cGv.lst cI sL)) := by
 refine zd zB Tab.none_ok ze low16 fun args z hs hf => ?_
 obtain ⟨gs, n, wg, -, rfl, hz⟩ := kA hs
 cases hz
 have hlen := (hf (.lst (gs.map cGv.enc)) (by simp [Cd.lst])).lst.1
 unfold maxLen at hlen
 simp only [List.length_map] at hlen
 refine ⟨by simp [lf16], ?_⟩
 simp only [cI, Cd.lst]
 simp [lf16]
 simp only [lf16_B0, zr]
 refine zo (fun fr G => ∃ i : Nat, i ≤ gs.length ∧ G = [⟨6, 0, false, [.agg [.p (.int .i64 0), .p (.bool false), .p (.bool false), .tight [], .tight [], .p (.int .i64 0)]], 35⟩] ∧ fr 0 = .p (.lst (gs.map cGv.enc)) ∧ fr 1 = .p (.int .i64 n) ∧ fr 4 = .optr 0 0 0 0 ∧ fr 5 = .p (.int .i64 i) ∧ ∀ g ∈ gs.take i, g.id ≠ n) (fun fr _ => gs.length - zD (fr 5)) ⟨0, by omega, by simp, by simp, by simp, by simp, by simp, by simp⟩ ?_
 rintro fr G ⟨i, hi, rfl, f0, f1, f4, f5, hno⟩
 by_cases h : i < gs.length
 ·obtain ⟨g, hg⟩ : ∃ g, gs[i]? = some g := ⟨_, List.getElem?_eq_getElem h⟩
  have hng := zZ hg
  have hw := zs (i := i) (by omega)
  have hdr : gs.drop i = g :: gs.drop (i + 1) := by rw [List.drop_eq_getElem_cons h, hng]
  have heg : cGv.enc g = .agg [.int .i64 g.id, .int .i64 g.v.k, .bool g.v.b, .bool g.v.x.s, .lst (g.v.x.n.map u64), .lst (g.v.x.d.map u64), .int .i64 g.v.el] := rfl
  by_cases he : g.id = n
  ·have hb : (g.id == n) = true := by simpa using he
   have hl : qc n gs = g.v := by rw [dN n gs i hno, hdr]; simp [qc, he]
   rw [hl]
   simp [f0, f1, f4, f5, h, hng, heg, he, Va.enc, Va.cells]
  ·have hb : (g.id == n) = false := by simpa using he
   simp [f0, f1, f4, f5, h, hng, heg, hb, hw, zD]
   refine ⟨⟨i + 1, by omega, rfl, fun x hx => ?_⟩, by omega⟩
   rw [List.take_add_one, hg] at hx
   simp at hx
   rcases hx with hx | rfl
   ·exact hno x hx
   ·exact he
 ·have hil : i = gs.length := by omega
  subst hil
  have hl : qc n gs = zVa := by rw [dN n gs _ hno, List.drop_of_length_le (Nat.le_refl _)]; rfl
  rw [hl]
  simp [f0, f4, f5, zVa, zF, Va.enc, Va.cells, qA]
def yd (t : Int) : Po := ⟨[⟨ofQ 1, t⟩], ofQ 0⟩
theorem rm (t : Int) : (yd t).wf := ⟨fun x hx => by simp [yd] at hx; subst hx; exact wS _, wS _⟩
def varP (t : Int) : Option PVal := some (yd t).enc
theorem o1_eq : Rat.divInt 1 1 = 1 := by decide +kernel
def Tvr : Tab := (Tab.none.with 43 (za uK)).with 53 (za kj)
theorem Tvr_ok : TabOk Tryz.prog base Tvr := Tab.with_ok (Tab.with_ok Tab.none_ok l6) sq
theorem Tvr_mu (f : FuncId) (a : List AVal) (H : zb) : Tvr.mu f a H = none := (rfl)
theorem Tvr_fns : Tvr.fn 43 = (za uK) ∧ Tvr.fn 53 = (za kj) := ⟨rfl, rfl⟩
theorem lvar_ok : zG Tryz.prog base 42 (za (sp1 cI varP)) := by
 refine zd zB Tvr_ok ze low42 fun args z hs hf => ?_
 obtain ⟨t, -, rfl, hz⟩ := yg hs
 cases hz
 refine ⟨by simp [lf42], ?_⟩
 have o1 := ofR (n := 1) (d := 1) (by decide)
 rw [o1_eq] at o1
 have o2 := yK
 simp only [cI, yd, Po.enc, List.map_cons, List.map_nil, Pa.enc]
 obtain ⟨x, hx⟩ : ∃ x, x = ofQ 1 := ⟨_, rfl⟩
 obtain ⟨y, hy⟩ : ∃ x, x = ofQ 0 := ⟨_, rfl⟩
 rw [← hx] at o1 ⊢
 rw [← hy] at o2 ⊢
 simp only [Fr.enc] at o1 o2
 simp [lf42, o1, o2, zN, qA, Tvr_mu, Tvr_fns]
def zerV (s : Int) : Va := if s = 1 then ⟨1, false, ofQ 0, 0⟩ else ⟨s, false, zF, 0⟩
def zerP (s : Int) : Option PVal := some (zerV s).enc
def Tze : Tab := Tab.none.with 53 (za kj)
theorem Tze_ok : TabOk Tryz.prog base Tze := Tab.with_ok Tab.none_ok sq
theorem Tze_mu (f : FuncId) (a : List AVal) (H : zb) : Tze.mu f a H = none := (rfl)
theorem Tze_fns : Tze.fn 53 = (za kj) := (rfl)
theorem mzero_ok : zG Tryz.prog base 30 (za (sp1 cI zerP)) := by
 refine zd zB Tze_ok ze low30 fun args z hs hf => ?_
 obtain ⟨s, -, rfl, hz⟩ := yg hs
 cases hz
 refine ⟨by simp [lf30], ?_⟩
 have o2 := yK
 simp only [cI, zerV]
 by_cases h1 : s = 1
 ·subst h1
  obtain ⟨y, hy⟩ : ∃ x, x = ofQ 0 := ⟨_, rfl⟩
  rw [← hy] at o2 ⊢
  simp only [Fr.enc] at o2
  simp [lf30, o2, Va.enc, Va.cells, qA, Tze_mu, Tze_fns]
 ·have h1' : (s == 1) = false := by simpa using h1
  simp [lf30, h1, h1', Va.enc, Va.cells, zF, qA]
def fR (v : Va) : Option PVal := if v.x.small = true then some v.enc else none
def Tow24 : Tab := Tab.none.with 75 (za pD)
theorem Tow24_ok : TabOk Tryz.prog base Tow24 := Tab.with_ok Tab.none_ok fZ
theorem Tow24_mu (f : FuncId) (a : List AVal) (H : zb) : Tow24.mu f a H = none := (rfl)
theorem Tow24_fns : Tow24.fn 75 = (za pD) := (rfl)
theorem mown_ok : zG Tryz.prog base 61 (za (sp1 cVa fR)) := by
 refine zd zB Tow24_ok ze low61 fun args z hs hf => ?_
 obtain ⟨v, wv, rfl, hz⟩ := yg hs
 unfold fR at hz
 split at hz
 case isFalse => cases hz
 rename_i hsm
 cases hz
 refine ⟨by simp [lf61], ?_⟩
 have o := sOwn_at (show v.x.wf from wv) hsm
 obtain ⟨k, b, ⟨s, n, d⟩, e⟩ := v
 simp only [Fr.enc] at o
 simp only [cVa, Va.enc, Va.cells]
 simp [lf61, o, Tow24_mu, Tow24_fns]
def mnI (a b : Int) : Int := if b < a then b else a
def mxI (a b : Int) : Int := if a < b then b else a
def jp (r : At × Int) : PVal := .tup [r.1.enc, .int .i64 r.2]
def eR (x y : Int) : At := ⟨5, zPo, mnI x y, mxI x y⟩
def eC (x y : Int) : Option PVal := if ¬ x = y ∧ 0 ≤ mnI x y then some (jp (eR x y, 0)) else none
theorem aeq_ok : zG Tryz.prog base 40 (za (sp2 cI cI eC)) := by
 refine zd zB Tab.none_ok ze low40 fun args z hs hf => ?_
 obtain ⟨x, y, -, -, rfl, hz⟩ := kA hs
 unfold eC at hz
 split at hz
 case isFalse => cases hz
 rename_i hc
 cases hz
 obtain ⟨h1, h2⟩ := hc
 refine ⟨by simp [lf40], ?_⟩
 have h1' : (x == y) = false := by simpa using h1
 have h3 : ¬ mnI x y < 0 := by omega
 simp only [cI, jp, eR, At.enc, zPo, zF]
 unfold mnI at h3 ⊢
 unfold mxI
 simp [lf40, h1', h3, qA]
def uX (x : Int) : At := ⟨6, zPo, x, 0⟩
def xV (x : Int) : Option PVal := if 0 ≤ x then some (jp (uX x, 0)) else none
theorem abool_ok : zG Tryz.prog base 46 (za (sp1 cI xV)) := by
 refine zd zB Tab.none_ok ze low46 fun args z hs hf => ?_
 obtain ⟨x, -, rfl, hz⟩ := yg hs
 unfold xV at hz
 split at hz
 case isFalse => cases hz
 rename_i hc
 cases hz
 refine ⟨by simp [lf46], ?_⟩
 have h' : ¬ x < 0 := by omega
 simp only [cI, jp, uX, At.enc, zPo, zF]
 simp [lf46, h', qA]
def nQ (y : Int) : Po × Nat := kx (yd y) (ofQ (-1))
def nG (x y : Int) : Po × Nat := iW (yd x) (nQ y).1
def numA (x y : Int) : At × Bool × Nat := sJ 3 (nG x y).1
def eqA (s x y : Int) : Option At :=
 if s = 1 then (if (nQ y).2 = 0 ∧ (nQ y).1.few = true ∧ (nG x y).2 = 0 ∧ (nG x y).1.few = true ∧ (numA x y).2.2 = 0 then some (numA x y).1 else none)
 else if ¬ x = y ∧ 0 ≤ mnI x y then some (eR x y) else none
theorem eqA_wf {s x y : Int} {a : At} (h : eqA s x y = some a) : a.p.wf := by
 unfold eqA at h
 split at h
 ·split at h
  ·cases h; exact wf_makeAt
  ·cases h
 ·split at h
  ·cases h; exact jK
  ·cases h
def tW (s x y : Int) : Option PVal := match eqA s x y with | some a => some (jp (a, 0)) | none => none
def Teq24 : Tab := (((((Tab.none.with 40 (za (sp2 cI cI eC))).with 42 (za (sp1 cI varP))).with 43 (za uK)).with 41 (za (gks bF))).with 44 (za (g2s iX))).with 45 (za (ki aR))
theorem Teq24_ok : TabOk Tryz.prog base Teq24 := Tab.with_ok (Tab.with_ok (Tab.with_ok (Tab.with_ok (Tab.with_ok (Tab.with_ok Tab.none_ok aeq_ok) lvar_ok) l6) eN) ladd_ok) amake_ok
theorem tH (f : FuncId) (a : List AVal) (H : zb) : Teq24.mu f a H = none := (rfl)
theorem nw : Teq24.fn 40 = (za (sp2 cI cI eC)) ∧ Teq24.fn 42 = (za (sp1 cI varP)) ∧ Teq24.fn 43 = (za uK) ∧ Teq24.fn 41 = (za (gks bF)) ∧ Teq24.fn 44 = (za (g2s iX)) ∧ Teq24.fn 45 = (za (ki aR)) := ⟨rfl, rfl, rfl, rfl, rfl, rfl⟩
theorem ueq_ok : zG Tryz.prog base 21 (za (sp3 cI cI cI tW)) := by
 refine zd zB Teq24_ok ze low21 fun args z hs hf => ?_
 obtain ⟨s, x, y, -, -, -, rfl, hz⟩ := gn hs
 unfold tW at hz
 cases he : eqA s x y with
 | none => rw [he] at hz; cases hz
 | some a =>
 rw [he] at hz
 cases hz
 unfold eqA at he
 refine ⟨by simp [lf21], ?_⟩
 simp only [cI]
 by_cases h1 : s = 1
 ·subst h1
  rw [if_pos rfl] at he
  split at he
  case isFalse => cases he
  rename_i hc
  cases he
  obtain ⟨n0, nf, s0, sf, m0⟩ := hc
  have o1 := ofR (n := -1) (d := 1) (by decide)
  rw [m1_eq] at o1
  have vf : ∀ t, (yd t).few = true := fun t => rfl
  have vx : sp1 cI varP [.int .i64 x] = some (yd x).enc := rfl
  have vy : sp1 cI varP [.int .i64 y] = some (yd y).enc := rfl
  have v1 : gks bF [(yd y).enc, (ofQ (-1)).enc] = some (.tup [(nQ y).1.enc, .int .i64 (nQ y).2]) := gks_at (rm y) (wS _) (vf y)
  have wn : (nQ y).1.wf := p8 _ _
  have v2 : g2s iX [(yd x).enc, (nQ y).1.enc] = some (.tup [(nG x y).1.enc, .int .i64 (nG x y).2]) := g2s_at (rm x) wn (vf x) nf
  have ws : (nG x y).1.wf := wf_addPo (rm x) wn
  have v3 : ki aR [.int .i64 3, (nG x y).1.enc] = some (.tup [(numA x y).1.enc, .bool (numA x y).2.1, .int .i64 (numA x y).2.2]) := ki_at ws sf
  rw [n0] at v1
  rw [s0] at v2
  rw [m0] at v3
  obtain ⟨pv, hpv⟩ : ∃ t, t = yd x := ⟨_, rfl⟩
  obtain ⟨pw, hpw⟩ : ∃ t, t = yd y := ⟨_, rfl⟩
  obtain ⟨pn, hpn⟩ : ∃ t, t = (nQ y).1 := ⟨_, rfl⟩
  obtain ⟨ps, hps⟩ : ∃ t, t = (nG x y).1 := ⟨_, rfl⟩
  obtain ⟨pa, hpa⟩ : ∃ t, t = (numA x y).1 := ⟨_, rfl⟩
  obtain ⟨pb, hpb⟩ : ∃ t, t = (numA x y).2.1 := ⟨_, rfl⟩
  obtain ⟨m1, hm1⟩ : ∃ t, t = ofQ (-1) := ⟨_, rfl⟩
  rw [← hpv] at vx v2
  rw [← hpw] at vy v1
  rw [← hpn] at v1 v2
  rw [← hps] at v2 v3
  rw [← hpa, ← hpb] at v3
  rw [← hpa]
  rw [← hm1] at o1 v1
  simp only [Po.enc, Fr.enc, At.enc, jp] at o1 vx vy v1 v2 v3 ⊢
  simp [lf21, o1, vy, v1, tH, nw]
  rw [zu]
  refine ⟨[], ?_⟩
  simp [vx, v2, v3, tH, nw]
  exact keepT rfl
 ·have h1' : (s != 1) = true := by simpa using h1
  rw [if_neg h1] at he
  split at he
  case isFalse => cases he
  rename_i hc
  cases he
  have v : sp2 cI cI eC [.int .i64 x, .int .i64 y] = some (jp (eR x y, 0)) := (vD (A := cI) (B := cI) (x := x) (y := y) trivial trivial).trans (if_pos hc)
  obtain ⟨pa, hpa⟩ : ∃ t, t = eR x y := ⟨_, rfl⟩
  rw [← hpa] at v ⊢
  simp only [At.enc, jp] at v ⊢
  simp [lf21, h1', v, tH, nw]
def pj (s x y : Int) : Option (List Li × List Li) :=
 if s = 0 then (if 0 ≤ x ∧ 0 ≤ y then some ([⟨uX x, false⟩, ⟨uX y, true⟩], [⟨uX x, true⟩, ⟨uX y, false⟩]) else none)
 else match eqA s x y with | some a => some ([⟨a, false⟩], []) | none => none
def xT (s x y : Int) : Option PVal := match pj s x y with | some r => some (.tup [.lst (r.1.map cLi.enc), .lst (r.2.map cLi.enc), .int .i64 0]) | none => none
def Ten : Tab := (Tab.none.with 21 (za (sp3 cI cI cI tW))).with 46 (za (sp1 cI xV))
theorem Ten_ok : TabOk Tryz.prog base Ten := Tab.with_ok (Tab.with_ok Tab.none_ok ueq_ok) abool_ok
theorem Ten_mu (f : FuncId) (a : List AVal) (H : zb) : Ten.mu f a H = none := (rfl)
theorem Ten_fns : Ten.fn 21 = (za (sp3 cI cI cI tW)) ∧ Ten.fn 46 = (za (sp1 cI xV)) := ⟨rfl, rfl⟩
theorem ends_ok : zG Tryz.prog base 22 (za (sp3 cI cI cI xT)) := by
 refine bM zB Ten_ok ze low22 fun args z hs hf => ?_
 obtain ⟨s, x, y, -, -, -, rfl, hz⟩ := gn hs
 unfold xT at hz
 cases he : pj s x y with
 | none => rw [he] at hz; cases hz
 | some r =>
 rw [he] at hz
 cases hz
 unfold pj at he
 refine ⟨by simp [lf22], ?_⟩
 simp only [cI]
 by_cases h0 : s = 0
 ·subst h0
  rw [if_pos rfl] at he
  split at he
  case isFalse => cases he
  rename_i hc
  cases he
  have bx : sp1 cI xV [.int .i64 x] = some (jp (uX x, 0)) := (mH (A := cI) (x := x) trivial).trans (if_pos hc.1)
  have by' : sp1 cI xV [.int .i64 y] = some (jp (uX y, 0)) := (mH (A := cI) (x := y) trivial).trans (if_pos hc.2)
  have hx : ∀ no, cLi.enc ⟨uX x, no⟩ = .agg ((uX x).cells ++ [.bool no]) := fun _ => rfl
  have hy : ∀ no, cLi.enc ⟨uX y, no⟩ = .agg ((uX y).cells ++ [.bool no]) := fun _ => rfl
  simp only [List.map_cons, List.map_nil, hx, hy]
  obtain ⟨pa, hpa⟩ : ∃ t, t = uX x := ⟨_, rfl⟩
  obtain ⟨pb, hpb⟩ : ∃ t, t = uX y := ⟨_, rfl⟩
  rw [← hpa] at bx ⊢
  rw [← hpb] at by' ⊢
  simp only [At.enc, At.cells, jp] at bx by' ⊢
  simp [lf22, bx, by', Ten_mu, Ten_fns]
  rw [jk]
  refine ⟨[], ?_⟩
  simp [zN, qA]
 ·have h0' : (s != 0) = true := by simpa using h0
  rw [if_neg h0] at he
  cases hq : eqA s x y with
  | none => rw [hq] at he; cases he
  | some a =>
  rw [hq] at he
  cases he
  have v : sp3 cI cI cI tW [.int .i64 s, .int .i64 x, .int .i64 y] = some (jp (a, 0)) := (fh (A := cI) (B := cI) (C := cI) (x := s) (y := x) (z := y) trivial trivial trivial).trans (by simp only [tW, hq])
  have hx : ∀ no, cLi.enc ⟨a, no⟩ = .agg (a.cells ++ [.bool no]) := fun _ => rfl
  simp only [List.map_cons, List.map_nil, hx]
  simp only [At.enc, At.cells, jp] at v ⊢
  simp [lf22, h0', v, Ten_mu, Ten_fns, zN, qA]
def lT : List PVal → Option (List PVal)
 | [.lst vs] => match j0 cLi.dec vs with | some (_ :: l) => if l.length ≤ 1000000 then some vs else none | _ => none
 | _ => none
theorem cloneLi_ok : zG Tryz.prog base 23 (vK 8 80 lT) := by
 refine b8 zB Tab.none_ok ze low23 fun args es hs hf => ?_
 unfold lT at hs
 split at hs
 case h_2 => cases hs
 split at hs
 case h_2 => cases hs
 rename_i x l hl
 obtain ⟨rfl, wl⟩ := cLi.edL _ _ hl
 split at hs
 case isFalse => cases hs
 rename_i hlen
 cases hs
 refine ⟨by simp [lf23], ?_⟩
 have hm : maxLen = 9223372036854775807 := rfl
 have h1 : (l.length + 1) * 112 ≤ 140737488355328 := by omega
 have h2 : l.length + 1 ≤ maxLen := by omega
 have h4 : ∀ x : Li, ∀ z ∈ (cLi.enc x).cells, z.isCell = true := fun x z hz => by
  simp only [cLi, PVal.cells, At.cells, List.cons_append, List.nil_append, List.mem_cons, List.not_mem_nil, or_false] at hz
  rcases hz with rfl | rfl | rfl | rfl | rfl | rfl | rfl | rfl <;> rfl
 simp [lf23, zN, cLi, At.cells, h1, h2, m8]
 exact ⟨0, 1, ⟨rfl, rfl⟩, _, rfl, rfl, rfl, rfl, rfl, rfl⟩
def lR : List PVal → Option (List PVal)
 | [.lst vs] => match j0 cVa.dec vs with | some (_ :: l) => if l.length ≤ 1000000 then some vs else none | _ => none
 | _ => none
theorem cloneVa_ok : zG Tryz.prog base 101 (vK 6 35 lR) := by
 refine b8 zB Tab.none_ok ze low101 fun args es hs hf => ?_
 unfold lR at hs
 split at hs
 case h_2 => cases hs
 split at hs
 case h_2 => cases hs
 rename_i x l hl
 obtain ⟨rfl, wl⟩ := cVa.edL _ _ hl
 split at hs
 case isFalse => cases hs
 rename_i hlen
 cases hs
 refine ⟨by simp [lf101], ?_⟩
 have hm : maxLen = 9223372036854775807 := rfl
 have h1 : (l.length + 1) * 80 ≤ 140737488355328 := by omega
 have h2 : l.length + 1 ≤ maxLen := by omega
 simp [lf101, zN, cVa, Va.enc, Va.cells, h1, h2, m8]
 exact ⟨0, 1, ⟨rfl, rfl⟩, _, rfl, rfl, rfl, rfl, rfl, rfl⟩
def lS : List PVal → Option (List PVal)
 | [.lst vs] => match j0 cRw.dec vs with | some (_ :: l) => if l.length ≤ 1000000 then some vs else none | _ => none
 | _ => none
theorem cloneRw_ok : zG Tryz.prog base 59 (vK 7 58 lS) := by
 refine b8 zB Tab.none_ok ze low59 fun args es hs hf => ?_
 unfold lS at hs
 split at hs
 case h_2 => cases hs
 split at hs
 case h_2 => cases hs
 rename_i x l hl
 obtain ⟨rfl, wl⟩ := cRw.edL _ _ hl
 split at hs
 case isFalse => cases hs
 rename_i hlen
 cases hs
 refine ⟨by simp [lf59], ?_⟩
 have hm : maxLen = 9223372036854775807 := rfl
 have h1 : (l.length + 1) * 104 ≤ 140737488355328 := by omega
 have h2 : l.length + 1 ≤ maxLen := by omega
 simp [lf59, zN, cRw, Va.cells, h1, h2, m8]
 exact ⟨0, 1, ⟨rfl, rfl⟩, _, rfl, rfl, rfl, rfl, rfl, rfl⟩
theorem vV (H : zb) (n : Nat) : ∀ l : List PVal, zP (zj H n) (l.map AVal.p) = some l
 | [] => rfl
 | x :: r => by simp [zP, zj, vV H n r]
theorem dv (H : zb) (n : Nat) : ∀ l : List PVal, (l.map AVal.p).flatMap (zi H n) = []
 | [] => rfl
 | x :: r => by rw [List.map_cons, List.flatMap_cons, dv H n r]; cases n <;> simp [zi]
theorem mn {size bytes k n ver : Nat} {fz : Bool} {ty : TypeId} {els ys : List AVal} {H : zb} (hk : H[k]? = some ⟨size, ver, fz, els, ty⟩) (hc : ys.all (fun y => y.cells.length == size && y.cells.all AVal.isCell) = true) (hp : 0 < size) (hn : n = els.length) (h1 : (els.length + ys.length) * bytes ≤ 140737488355328) (h2 : els.length + ys.length ≤ maxLen) :
  qC size bytes ty (.own k 0 n ver) ys H = some (.own k 0 (n + ys.length) (ver + 1), H.set k ⟨size, ver + 1, fz, els ++ ys, ty⟩) := by
 unfold qC
 rw [if_pos ⟨hc, hp⟩]
 simp only [hk]
 rw [if_pos ⟨trivial, trivial, trivial, trivial, hn, h1, h2⟩]
def bv (n : Int) : List Vr → Option Int
 | [] => none
 | g :: r => if g.id = n then some g.k else bv n r
theorem xF (n : Int) : ∀ vs : List Vr, lookP n (vs.map kvV) = (bv n vs).map (fun k => PVal.int .i64 k)
 | [] => rfl
 | g :: r => by
  simp only [List.map_cons, lookP, bv, kvV]
  split
  ·rfl
  ·exact xF n r
def pO (vs : List Vr) : List Int → List Int → Bool
 | [], [] => true
 | x :: l, y :: m => (match bv x vs with
  | some s => (match bv y vs with | some t => decide (s = t) && decide (0 ≤ mn2 (mn2 s x) y) | none => false)
  | none => false) && pO vs l m
 | _, _ => false
theorem su {vs : List Vr} : ∀ {l m : List Int} {i : Nat} {x y : Int}, pO vs l m = true → l[i]? = some x → m[i]? = some y → ∃ s, bv x vs = some s ∧ bv y vs = some s ∧ 0 ≤ mn2 (mn2 s x) y
 | [], _, i, x, y, _, hx, _ => by simp at hx
 | _ :: _, [], i, x, y, h, _, _ => by cases h
 | a :: l, b :: m, i, x, y, h, hx, hy => by
  simp only [pO, Bool.and_eq_true] at h
  cases i with
  | zero =>
   simp at hx hy
   subst hx; subst hy
   obtain ⟨h, -⟩ := h
   split at h
   ·rename_i s hs
    split at h
    ·rename_i t ht
     simp only [Bool.and_eq_true, decide_eq_true_eq] at h
     obtain ⟨rfl, h2⟩ := h
     exact ⟨s, hs, ht, h2⟩
    ·cases h
   ·cases h
  | succ i => exact su h.2 (by simpa using hx) (by simpa using hy)
def yj (vs : List Vr) : List Int → List Int → Option (List Li)
 | [], [] => some []
 | x :: l, y :: m => if x = y then yj vs l m else match bv x vs with
  | some s => (match eqA s x y with
   | some a => (match yj vs l m with | some r => some (⟨a, true⟩ :: r) | none => none)
   | none => none)
  | none => none
 | _, _ => none
theorem gL {vs : List Vr} : ∀ {l m : List Int} {r : List Li}, yj vs l m = some r → cLi.wfL r
 | [], [], r, h => by cases h; intro x hx; cases hx
 | x :: l, y :: m, r, h => by
  unfold yj at h
  split at h
  ·exact gL h
  ·split at h
   ·split at h
    ·rename_i a ha
     split at h
     ·rename_i r' hr
      cases h
      intro z hz
      rcases List.mem_cons.1 hz with rfl | hz
      ·exact eqA_wf ha
      ·exact gL hr z hz
     ·cases h
    ·cases h
   ·cases h
 | [], _ :: _, _, h => by cases h
 | _ :: _, [], _, h => by cases h
theorem cH {vs : List Vr} : ∀ {l m : List Int} {r : List Li}, yj vs l m = some r → r.length ≤ l.length
 | [], [], r, h => by cases h; simp
 | x :: l, y :: m, r, h => by
  unfold yj at h
  split at h
  ·have := cH h; simp; omega
  ·split at h
   ·split at h
    ·split at h
     ·rename_i r' hr
      cases h
      have := cH hr
      simp; omega
     ·cases h
    ·cases h
   ·cases h
 | [], _ :: _, _, h => by cases h
 | _ :: _, [], _, h => by cases h
def m5 (vs : List Vr) (a b : Md) : Option (List Li × List Li) :=
 if (a.few && b.few && decide (vs.length ≤ 1000000) && decide (a.f = b.f) && decide (a.ag.length = b.ag.length) && decide (a.id ≠ b.id) && pO vs (a.id :: a.ag) (b.id :: b.ag)) = true then
  match yj vs a.ag b.ag with
  | some (o :: out) => (match bv a.id vs with
   | some s => (match pj s a.id b.id with
    | some r => some (o :: out ++ r.1, if r.2.isEmpty then [] else o :: out ++ r.2)
    | none => none)
   | none => none)
  | _ => none
 else none
def bW (vs : List Vr) (a b : Md) : Option PVal := match m5 vs a b with
 | some r => some (.tup [.lst (r.1.map cLi.enc), .lst (r.2.map cLi.enc), .int .i64 0])
 | none => none
def Tlm : Tab := (((Tab.none.with 20 rQ).with 21 (za (sp3 cI cI cI tW))).with 22 (za (sp3 cI cI cI xT))).with 23 (vK 8 80 lT)
theorem Tlm_ok : TabOk Tryz.prog base Tlm := Tab.with_ok (Tab.with_ok (Tab.with_ok (Tab.with_ok Tab.none_ok tabV_ok) ueq_ok) ends_ok) cloneLi_ok
theorem tF (f : FuncId) (a : List AVal) (H : zb) : Tlm.mu f a H = none := rfl
theorem mA : Tlm.fn 20 = rQ ∧ Tlm.fn 21 = za (sp3 cI cI cI tW) ∧ Tlm.fn 22 = za (sp3 cI cI cI xT) ∧ Tlm.fn 23 = vK 8 80 lT := ⟨rfl, rfl, rfl, rfl⟩
theorem sTabV_at {gs : List Vr} (h : gs.length ≤ 1000000) : rQ [.lst (gs.map cVr.enc)] = some (.omap 0 0, [⟨0, 0, false, kW (gs.map kvV), 0⟩]) := by
 simp only [rQ, cVr.deL gs (fun _ _ => trivial)]
 rw [if_pos (by omega)]
theorem aW : zG Tryz.prog base 9 (za (sp3 cVr.lst cMd cMd bW)) := by
 refine bM zB Tlm_ok ze low9 fun args z hs hf => ?_
 obtain ⟨vs, a, b, -, -, -, rfl, hz⟩ := gn hs
 unfold bW at hz
 cases hl : m5 vs a b with
 | none => rw [hl] at hz; cases hz
 | some r =>
 rw [hl] at hz
 cases hz
 unfold m5 at hl
 split at hl
 case isFalse => cases hl
 rename_i hc
 simp only [Bool.and_eq_true, decide_eq_true_eq] at hc
 obtain ⟨⟨⟨⟨⟨⟨fa, fb⟩, hvl⟩, hff⟩, hla⟩, hid⟩, hpk⟩ := hc
 simp only [Md.few, decide_eq_true_eq] at fa fb
 obtain ⟨es, hes⟩ : ∃ es, es = kW (vs.map kvV) := ⟨_, rfl⟩
 have ht := sTabV_at hvl
 rw [← hes] at ht
 have hsh : es.map (zk 2) = es := by rw [hes]; exact ru 2 _
 have hmf : ∀ n s, bv n vs = some s → wJ n es = some (.int .i64 s) := fun n s h => by rw [hes, sH, xF, h]; rfl
 obtain ⟨ai, af, aa⟩ := a
 obtain ⟨bi, bf, ba⟩ := b
 simp only at hff hla hid hpk hl fa fb
 subst hff
 have hbs : dV .neq af af = some (.bool false) := by simp [dV]
 have hbe : (ai == bi) = false := by simpa using hid
 have hmx : maxLen = 9223372036854775807 := rfl
 have hb1 : 1 + ba.length ≤ maxLen := by omega
 have hb2 : (1 + ba.length) * 8 ≤ 140737488355328 := by omega
 refine ⟨by simp [lf9], ?_⟩
 have hint : cI.enc = fun n => .int .i64 n := rfl
 simp only [cMd, Cd.lst, hint]
 simp [lf9, ht, hsh, wH, -zk, hla, hbs, hbe, tF, mA]
 rw [jk]
 refine ⟨[], ?_⟩
 simp [zN, hla, hb1, hb2]
 refine ⟨keepT rfl, ?_⟩
 have hLa : AVal.p (PVal.int .i64 ai) :: List.map (AVal.p ∘ fun n => PVal.int .i64 n) aa = (ai :: aa).map (fun n => AVal.p (.int .i64 n)) := rfl
 have hLb : AVal.p (PVal.int .i64 bi) :: List.map (AVal.p ∘ fun n => PVal.int .i64 n) ba = (bi :: ba).map (fun n => AVal.p (.int .i64 n)) := rfl
 rw [hLa, hLb]
 obtain ⟨X, hX⟩ : ∃ X, X = ai :: aa := ⟨_, rfl⟩
 obtain ⟨Y, hY⟩ : ∃ Y, Y = bi :: ba := ⟨_, rfl⟩
 rw [← hX, ← hY] at hpk ⊢
 obtain ⟨N, hN⟩ : ∃ N, N = 1 + ba.length := ⟨_, rfl⟩
 have hXl : X.length = N := by rw [hX, hN]; simp; omega
 have hYl : Y.length = N := by rw [hY, hN]; simp; omega
 rw [← hN]
 obtain ⟨c4, hc4⟩ : ∃ c : Ent, c = ⟨3, 0, false, [.p (.agg [.int .i64 ai, .str af, .lst (aa.map fun n => .int .i64 n)])], 26⟩ := ⟨_, rfl⟩
 obtain ⟨c5, hc5⟩ : ∃ c : Ent, c = ⟨3, 0, false, [.p (.agg [.int .i64 bi, .str af, .lst (ba.map fun n => .int .i64 n)])], 26⟩ := ⟨_, rfl⟩
 rw [← hc4, ← hc5]
 simp only [lf9_B0, zr]
 refine zo (fun fr G => ∃ i : Nat, i ≤ N ∧ G = [c4, c5, ⟨0, 0, false, es, 0⟩, ⟨1, 2, false, X.map (fun n => .p (.int .i64 n)), 3⟩, ⟨1, 2, false, Y.map (fun n => .p (.int .i64 n)), 3⟩] ∧ fr 4 = .optr 0 0 0 0 ∧ fr 5 = .optr 1 0 0 0 ∧ fr 9 = .omap 2 0 ∧ fr 11 = .own 4 0 N 2 ∧ fr 61 = .own 3 0 N 2 ∧ fr 62 = .p (.int .i64 N) ∧ fr 63 = .p (.int .i64 i)) (fun fr _ => N - zD (fr 63)) ⟨0, by omega, rfl, by simp, by simp, by simp, by simp, by simp, by simp; omega, by simp⟩ ?_
 rintro fr G ⟨i, hi, rfl, f4, f5, f9, f11, f61, f62, f63⟩
 by_cases h : i < N
 ·obtain ⟨x, hx⟩ : ∃ x, X[i]? = some x := ⟨_, List.getElem?_eq_getElem (by omega)⟩
  obtain ⟨y, hy⟩ : ∃ y, Y[i]? = some y := ⟨_, List.getElem?_eq_getElem (by omega)⟩
  have hnx := zZ hx
  have hny := zZ hy
  obtain ⟨s, s1, s2, s3⟩ := su hpk hx hy
  have m1 := hmf x s s1
  have m2 := hmf y s s2
  have hw := zs (i := i) (by omega)
  have s3' : ¬ mn2 (mn2 s x) y < 0 := by omega
  simp [f4, f5, f9, f11, f61, f62, f63, h, hnx, hny, hXl, hYl, m1, m2, s3', hw, zD]
  exact ⟨⟨i + 1, by omega, rfl⟩, by omega⟩
 ·have hil : i = N := by omega
  subst hil
  subst hc4 hc5
  simp [f4, f62, f63]
  cases hout : yj vs aa ba with
  | none => rw [hout] at hl; cases hl
  | some full =>
  rw [hout] at hl
  cases full with
  | nil => cases hl
  | cons o0 outr =>
  simp only at hl
  cases hso : bv ai vs with
  | none => rw [hso] at hl; cases hl
  | some s =>
  rw [hso] at hl
  simp only at hl
  cases hen : pj s ai bi with
  | none => rw [hen] at hl; cases hl
  | some q =>
  rw [hen] at hl
  simp only [Option.some.injEq] at hl
  obtain ⟨one, two⟩ := q
  subst hl
  have wfull := gL hout
  have lfull := cH hout
  obtain ⟨full, hfull⟩ : ∃ t, t = o0 :: outr := ⟨_, rfl⟩
  have hfl : full.length = outr.length + 1 := by rw [hfull]; rfl
  rw [← hfull] at hout wfull lfull
  simp only [lf9_B1, zr]
  refine zo (fun fr G => ∃ (i : Nat) (out rest : List Li), i ≤ aa.length ∧ G[0]? = some ⟨3, 0, false, [.p (.agg [.int .i64 ai, .str af, .lst (aa.map fun n => .int .i64 n)])], 26⟩ ∧ G[1]? = some ⟨3, 0, false, [.p (.agg [.int .i64 bi, .str af, .lst (ba.map fun n => .int .i64 n)])], 26⟩ ∧ G[2]? = some ⟨0, 0, false, es, 0⟩ ∧
   fr 4 = .optr 0 0 0 0 ∧ fr 5 = .optr 1 0 0 0 ∧ fr 9 = .omap 2 0 ∧ fr 106 = .p (.lst (aa.map fun n => .int .i64 n)) ∧ fr 107 = .p (.int .i64 aa.length) ∧ fr 108 = .p (.int .i64 i) ∧
   yj vs (aa.drop i) (ba.drop i) = some rest ∧ full = out ++ rest ∧ ((out = [] ∧ fr 18 = .tight []) ∨ (∃ m w, 3 ≤ m ∧ fr 18 = .own m 0 out.length w ∧ G[m]? = some ⟨8, w, false, (out.map cLi.enc).map .p, 80⟩))) (fun fr _ => aa.length - zD (fr 108))
   ⟨0, [], full, by omega, rfl, rfl, rfl, by simp [f4], by simp [f5], by simp [f9], by simp, by simp [hla], by simp, by simpa using hout, rfl, .inl ⟨rfl, by simp⟩⟩ ?_
  rintro fr2 G ⟨i, out, rest, hi, g0, g1, g2, k4, k5, k9, k106, k107, k108, hor, hfo, k18⟩
  have hG0 : 0 < G.length := (List.getElem?_eq_some_iff.1 g0).1
  have hG1 : 1 < G.length := (List.getElem?_eq_some_iff.1 g1).1
  have hG2 : 2 < G.length := (List.getElem?_eq_some_iff.1 g2).1
  by_cases h : i < aa.length
  ·obtain ⟨x, hx⟩ : ∃ x, aa[i]? = some x := ⟨_, List.getElem?_eq_getElem h⟩
   obtain ⟨y, hy⟩ : ∃ y, ba[i]? = some y := ⟨_, List.getElem?_eq_getElem (by omega)⟩
   have hnx := zZ hx
   have hny := zZ hy
   have hib : i < ba.length := by omega
   have hw := zs (i := i) (by omega)
   have hda : aa.drop i = x :: aa.drop (i + 1) := by rw [List.drop_eq_getElem_cons h, hnx]
   have hdb : ba.drop i = y :: ba.drop (i + 1) := by rw [List.drop_eq_getElem_cons hib, hny]
   rw [hda, hdb] at hor
   by_cases hxy : x = y
   ·subst hxy
    rw [yj, if_pos rfl] at hor
    simp [k4, k5, k9, k106, k107, k108, h, hnx, hny, g1, hib, hw, zD]
    exact ⟨⟨i + 1, by omega, g0, g2, rfl, out, rest, hor, hfo, by simpa using k18⟩, by omega⟩
   ·rw [yj, if_neg hxy] at hor
    have hbxy : (x == y) = false := by simpa using hxy
    cases hsx : bv x vs with
    | none => rw [hsx] at hor; cases hor
    | some t =>
    rw [hsx] at hor
    simp only at hor
    cases heq : eqA t x y with
    | none => rw [heq] at hor; cases hor
    | some ea =>
    rw [heq] at hor
    simp only at hor
    cases hre : yj vs (aa.drop (i + 1)) (ba.drop (i + 1)) with
    | none => rw [hre] at hor; cases hor
    | some rest' =>
    rw [hre] at hor
    simp only [Option.some.injEq] at hor
    subst hor
    have m1 := hmf x t hsx
    have v : sp3 cI cI cI tW [.int .i64 t, .int .i64 x, .int .i64 y] = some (jp (ea, 0)) := (fh (A := cI) (B := cI) (C := cI) (x := t) (y := x) (z := y) trivial trivial trivial).trans (by simp only [tW, heq])
    have hA0 : ∀ Z, (G ++ Z)[0]? = some ⟨3, 0, false, [.p (.agg [.int .i64 ai, .str af, .lst (aa.map fun n => .int .i64 n)])], 26⟩ := fun Z => by rw [List.getElem?_append_left hG0]; exact g0
    have hA1 : ∀ Z, (G ++ Z)[1]? = some ⟨3, 0, false, [.p (.agg [.int .i64 bi, .str af, .lst (ba.map fun n => .int .i64 n)])], 26⟩ := fun Z => by rw [List.getElem?_append_left hG1]; exact g1
    have hA2 : ∀ Z, (G ++ Z)[2]? = some ⟨0, 0, false, es, 0⟩ := fun Z => by rw [List.getElem?_append_left hG2]; exact g2
    simp only [jp, At.enc] at v
    have hli : cLi.enc ⟨ea, true⟩ = .agg [.int .i64 ea.k, .lst (ea.p.ps.map Pa.enc), .bool ea.p.c.s, .lst (ea.p.c.n.map u64), .lst (ea.p.c.d.map u64), .int .i64 ea.a, .int .i64 ea.b, .bool true] := rfl
    have hfo' : full = (out ++ [⟨ea, true⟩]) ++ rest' := by rw [hfo]; simp
    have hmap : ((out ++ [(⟨ea, true⟩ : Li)]).map cLi.enc).map AVal.p = (out.map cLi.enc).map AVal.p ++ [.p (cLi.enc ⟨ea, true⟩)] := by simp
    rw [hli] at hmap
    simp [k5, k106, k107, k108, h, hnx, hny, g1, hib, hbxy]
    rw [jk]
    refine ⟨[], ?_⟩
    have hb3 : 1 ≤ maxLen := by omega
    have hlo : out.length ≤ aa.length := by
     have := congrArg List.length hfo
     simp at this
     omega
    rcases k18 with ⟨rfl, k18⟩ | ⟨m, w, hm3, k18, gm⟩
    ·simp [k4, k5, k9, k18, k106, k107, k108, hA1, hA2, hny, hib, hG1, hG2, m1, v, zN, qA, hb3, hw, zD, tF, mA]
     refine ⟨⟨i + 1, by omega, (List.getElem?_eq_some_iff.1 (hA0 _)).2, (List.getElem?_eq_some_iff.1 g1).2, (List.getElem?_eq_some_iff.1 g2).2, rfl, [⟨ea, true⟩], rest', hre, by simpa using hfo', _, by omega, _, ⟨rfl, rfl, rfl⟩, ?_⟩, by omega⟩
     rw [bd]
     simp [hli]
    ·have hm : m < G.length := (List.getElem?_eq_some_iff.1 gm).1
     obtain ⟨L, hL⟩ : ∃ L, L = (out.map cLi.enc).map AVal.p := ⟨_, rfl⟩
     have hLl : L.length = out.length := by rw [hL]; simp
     rw [← hL] at gm hmap
     have hM : ∀ Z, (G ++ Z)[m]? = some ⟨8, w, false, L, 80⟩ := fun Z => by rw [List.getElem?_append_left hm]; exact gm
     have hS : ∀ (k : Nat) Z x, k < 3 → ((G ++ Z).set m x)[k]? = G[k]? := fun k Z x hk => by rw [List.getElem?_set_ne (by omega), List.getElem?_append_left (by omega)]
     have hS0 := fun Z x => (hS 0 Z x (by omega)).trans g0
     have hS1 := fun Z x => (hS 1 Z x (by omega)).trans g1
     have hS2 := fun Z x => (hS 2 Z x (by omega)).trans g2
     have hSm : ∀ Z x, ((G ++ Z).set m x)[m]? = some x := fun Z x => List.getElem?_set_self (by simp; omega)
     have hb4 : (out.length + 1) * 112 ≤ 140737488355328 := by omega
     have hb5 : out.length + 1 ≤ maxLen := by omega
     simp [k4, k5, k9, k18, k106, k107, k108, hA1, hA2, hny, hib, hG1, hG2, m1, v, zN, qA, hb4, hb5, hM, hLl, hw, zD, hS2, tF, mA]
     refine ⟨⟨i + 1, by omega, (List.getElem?_eq_some_iff.1 (hS0 _ _)).2, (List.getElem?_eq_some_iff.1 (hS1 _ _)).2, rfl, out ++ [⟨ea, true⟩], rest', hre, hfo', m, hm3, _, ⟨rfl, by simp, rfl⟩, ?_⟩, by omega⟩
     rw [hSm, hL]
     simp [hli]
  ·have hil : i = aa.length := by omega
   subst hil
   rw [List.drop_of_length_le (Nat.le_refl _), List.drop_of_length_le (by omega)] at hor
   simp only [yj, Option.some.injEq] at hor
   subst hor
   rw [List.append_nil] at hfo
   subst hfo
   rcases k18 with ⟨h0, -⟩ | ⟨m, w, hm3, k18, gm⟩
   ·rw [h0] at hfl
    simp at hfl
   ·have m1 := hmf ai s hso
    have v : sp3 cI cI cI xT [.int .i64 s, .int .i64 ai, .int .i64 bi] = some (.tup [.lst (one.map cLi.enc), .lst (two.map cLi.enc), .int .i64 0]) := (fh (A := cI) (B := cI) (C := cI) (x := s) (y := ai) (z := bi) trivial trivial trivial).trans (by simp only [xT, hen])
    have hlt : (two.map cLi.enc = []) ↔ two = [] := by simp
    have hm : m < G.length := (List.getElem?_eq_some_iff.1 gm).1
    obtain ⟨L, hL⟩ : ∃ L, L = full.map cLi.enc := ⟨_, rfl⟩
    have hLl : L.length = full.length := by rw [hL]; simp
    have hwe : (o0 :: outr ++ one).map cLi.enc = L ++ one.map cLi.enc := by rw [hL, ← hfull]; simp
    have hwt : (o0 :: outr ++ two).map cLi.enc = L ++ two.map cLi.enc := by rw [hL, ← hfull]; simp
    rw [← hL] at gm
    have hone : one.length ≤ 2 ∧ two.length ≤ 2 := by
     unfold pj at hen
     split at hen
     ·split at hen
      ·cases hen; simp
      ·cases hen
     ·split at hen
      ·cases hen; simp
      ·cases hen
    have hcw : cLi.wfL one ∧ cLi.wfL two := by
     unfold pj at hen
     split at hen
     ·split at hen
      ·cases hen
       constructor
       ·intro z hz
        simp at hz
        rcases hz with rfl | rfl <;> exact jK
       ·intro z hz
        simp at hz
        rcases hz with rfl | rfl <;> exact jK
      ·cases hen
     ·split at hen
      ·rename_i a ha
       cases hen
       constructor
       ·intro z hz
        simp at hz
        subst hz
        exact eqA_wf ha
       ·intro z hz
        cases hz
      ·cases hen
    have hcell : ∀ (l : List Li), (l.map (AVal.p ∘ cLi.enc)).all (fun y => y.cells.length == 8 && y.cells.all AVal.isCell) = true := fun l => by
     rw [List.all_eq_true]
     intro z hz
     obtain ⟨u, _, rfl⟩ := List.mem_map.1 hz
     rfl
    have hres : ∀ (H : zb) (n : Nat) (l : List Li), zP (zj H n) (L.map AVal.p ++ l.map (AVal.p ∘ cLi.enc)) = some (L ++ l.map cLi.enc) := fun H n l => by
     have : L.map AVal.p ++ l.map (AVal.p ∘ cLi.enc) = (L ++ l.map cLi.enc).map AVal.p := by simp
     rw [this, vV]
    have hb6 : ∀ l : List Li, l.length ≤ 2 → (full.length + l.length) * 112 ≤ 140737488355328 ∧ full.length + l.length ≤ maxLen := fun l h => by
     have : full.length ≤ aa.length := lfull
     constructor <;> omega
    have app1 : ∀ (H : zb) (k v : Nat) (fz : Bool) (l : List Li), l.length ≤ 2 → H[k]? = some ⟨8, v, fz, L.map AVal.p, 80⟩ → qC 8 112 80 (.own k 0 full.length v) (l.map (AVal.p ∘ cLi.enc)) H = some (.own k 0 (full.length + l.length) (v + 1), H.set k ⟨8, v + 1, fz, L.map AVal.p ++ l.map (AVal.p ∘ cLi.enc), 80⟩) := fun H k v fz l hl hk => by
     have := mn (bytes := 112) (n := full.length) hk (hcell l) (by decide) (by simp [hLl]) (by simp only [List.length_map, hLl]; exact (hb6 l hl).1) (by simp only [List.length_map, hLl]; exact (hb6 l hl).2)
     simpa using this
    simp only [hwe]
    cases htw : two with
    | nil =>
     subst htw
     simp only [List.map_nil] at v
     have a1 := app1 G m w false one hone.1 gm
     have gs : ∀ x, (G.set m x)[m]? = some x := fun x => List.getElem?_set_self hm
     have ht1 : (L ++ one.map cLi.enc).length = full.length + one.length := by simp [hLl]
     have ht2 : List.take (full.length + one.length) (L.map AVal.p ++ one.map (AVal.p ∘ cLi.enc)) = L.map AVal.p ++ one.map (AVal.p ∘ cLi.enc) := List.take_of_length_le (by simp [hLl])
     simp [k4, k5, k9, k18, k107, k108, g0, g1, g2, m1, v, a1, gs, hres, ht2, hLl, tF, mA, -qC]
    | cons t0 tr =>
     rw [← htw]
     have htl : 0 < two.length := by rw [htw]; simp
     have hte : two.isEmpty = false := by rw [htw]; rfl
     simp only [hte, Bool.false_eq_true, if_false, hwt]
     have htI : (0 : Int) < (two.length : Int) := by omega
     have hcl : vK 8 80 lT [.lst L] = some (.own 0 0 full.length 0, [⟨8, 0, false, L.map AVal.p, 80⟩]) := by
      have : lT [.lst L] = some L := by
       have h1 := cLi.deL full wfull
       rw [← hL] at h1
       simp only [lT, h1]
       rw [hfull]
       simp only
       rw [if_pos (by omega)]
      simp only [vK, this, hLl]
     have hF : freeze1 G m = G.set m ⟨8, w, true, L.map AVal.p, 80⟩ := by
      unfold Abs.freeze1
      rw [gm]
     obtain ⟨F, hFF⟩ : ∃ F, F = G.set m ⟨8, w, true, L.map AVal.p, 80⟩ := ⟨_, rfl⟩
     have hFl : F.length = G.length := by rw [hFF]; simp
     have hFm : F[m]? = some ⟨8, w, true, L.map AVal.p, 80⟩ := by rw [hFF]; exact List.getElem?_set_self hm
     rw [← hFF] at hF
     have ht0 : ∀ n, zP (zj G n) (List.take full.length (L.map AVal.p)) = some L := fun n => by rw [List.take_of_length_le (by simp [hLl]), vV]
     have ht3 : ∀ n, (List.take full.length (L.map AVal.p)).flatMap (zi G n) = [] := fun n => by rw [List.take_of_length_le (by simp [hLl]), dv]
     have hsm : ∀ n, List.map (zk n ∘ AVal.p) L = L.map AVal.p := fun n => by
      apply List.map_congr_left
      intro z _
      simp [zk]
     have a2 := app1 (F ++ [⟨8, 0, false, L.map AVal.p, 80⟩]) G.length 0 false two hone.2 (by rw [← hFl]; simp)
     have a3 := app1 (F ++ [⟨8, 1, false, L.map AVal.p ++ two.map (AVal.p ∘ cLi.enc), 80⟩]) m w true one hone.1 (by rw [List.getElem?_append_left (by omega)]; exact hFm)
     have gs1 : ∀ Z x, ((F ++ Z).set m x)[m]? = some x := fun Z x => List.getElem?_set_self (by simp; omega)
     have gs2 : ∀ z Z x, ((F ++ z :: Z).set m x)[G.length]? = some z := fun z Z x => by rw [List.getElem?_set_ne (by omega), ← hFl]; simp
     have tk1 : List.take (full.length + one.length) (L.map AVal.p ++ one.map (AVal.p ∘ cLi.enc)) = L.map AVal.p ++ one.map (AVal.p ∘ cLi.enc) := List.take_of_length_le (by simp [hLl])
     have tk2 : List.take (full.length + two.length) (L.map AVal.p ++ two.map (AVal.p ∘ cLi.enc)) = L.map AVal.p ++ two.map (AVal.p ∘ cLi.enc) := List.take_of_length_le (by simp [hLl])
     simp [k4, k5, k9, k18, k107, k108, g0, g1, g2, gm, m1, v, htl, ht0, ht3, hcl, hF, hFl, hLl, hsm, wH, a2, a3, gs1, gs2, tk1, tk2, hres, tF, mA, -qC, -getElem?_pos, List.getElem?_cons_zero, List.getElem?_cons_succ]
def uU (s : Int) : List Va → List Int
 | [] => []
 | v :: r => if v.k = s then v.el :: uU s r else uU s r
def nd (els : List Int) (k : Nat) : Nat → Option Nat
 | 0 => none
 | f + 1 => if (k : Int) ∈ els then nd els (k + 1) f else some k
theorem nX {els : List Int} : ∀ {f k n : Nat}, nd els k f = some n → k ≤ n ∧ (n : Int) ∉ els ∧ ∀ j, k ≤ j → j < n → (j : Int) ∈ els
 | 0, k, n, h => by cases h
 | f + 1, k, n, h => by
  unfold nd at h
  split at h
  ·rename_i hk
   obtain ⟨h1, h2, h3⟩ := nX h
   refine ⟨by omega, h2, fun j hj hn => ?_⟩
   by_cases he : j = k
   ·subst he; exact hk
   ·exact h3 j (by omega) hn
  ·rename_i hk
   cases h
   exact ⟨Nat.le_refl _, hk, fun j hj hn => by omega⟩
def freeF (s : Int) (vs : List Va) : Option Nat := nd (uU s vs) 0 1000
def freeP (s : Int) (vs : List Va) : Option PVal := match freeF s vs with | some n => some (Va.enc ⟨s, false, zF, n⟩) | none => none
theorem xQ {els : List Int} : ∀ {f k n : Nat}, nd els k f = some n → n < k + f
 | 0, k, n, h => by cases h
 | f + 1, k, n, h => by
  unfold nd at h
  split at h
  ·have := xQ h; omega
  ·cases h; omega
theorem elsOf_take (s : Int) {vs : List Va} {i : Nat} {v : Va} (h : vs[i]? = some v) (n : Int) : n ∈ uU s (vs.take (i + 1)) ↔ (n ∈ uU s (vs.take i) ∨ (v.k = s ∧ n = v.el)) := by
 have ap : ∀ (l m : List Va), uU s (l ++ m) = uU s l ++ uU s m := fun l m => by
  induction l with
  | nil => rfl
  | cons a r ih => simp only [List.cons_append, uU]; split <;> simp [ih]
 rw [List.take_add_one, h, ap]
 simp only [Option.toList_some, uU, List.mem_append]
 split <;> simp [*]
theorem free_ok : zG Tryz.prog base 18 (za (sp2 cI cVa.lst freeP)) := by
 refine zd zB Tab.none_ok ze low18 fun args z hs hf => ?_
 obtain ⟨s, vs, -, wv, rfl, hz⟩ := kA hs
 unfold freeP at hz
 cases hn : freeF s vs with
 | none => rw [hn] at hz; cases hz
 | some n =>
 rw [hn] at hz
 cases hz
 unfold freeF at hn
 obtain ⟨-, n1, n2⟩ := nX hn
 have n3 := xQ hn
 have hlen := (hf (.lst (vs.map cVa.enc)) (by simp [Cd.lst])).lst.1
 unfold maxLen at hlen
 simp only [List.length_map] at hlen
 refine ⟨by simp [lf18], ?_⟩
 simp only [cI, Cd.lst]
 simp [lf18]
 simp only [lf18_B0, zr]
 obtain ⟨c0, hc0⟩ : ∃ c : Ent, c = ⟨6, 0, false, [.agg [.p (.int .i64 0), .p (.bool false), .p (.bool false), .tight [], .tight [], .p (.int .i64 0)]], 35⟩ := ⟨_, rfl⟩
 refine zo (fun fr G => ∃ (i : Nat) (es : List AVal), i ≤ vs.length ∧ G[0]? = some c0 ∧ G[1]? = some ⟨0, 0, false, es, 0⟩ ∧ (∀ x ∈ es, ∃ k z, x = qh k z) ∧ (∀ m, wJ m es = if m ∈ uU s (vs.take i) then some (.bool true) else none) ∧
  fr 0 = .p (.int .i64 s) ∧ fr 4 = .optr 0 0 0 0 ∧ fr 5 = .omap 1 0 ∧ fr 10 = .p (.lst (vs.map cVa.enc)) ∧ fr 11 = .p (.int .i64 vs.length) ∧ fr 12 = .p (.int .i64 i)) (fun fr _ => vs.length - zD (fr 12))
  ⟨0, [], by omega, by rw [hc0]; rfl, rfl, by simp, by simp [wJ, uU], by simp, by simp, by simp, by simp, by simp, by simp⟩ ?_
 rintro fr G ⟨i, es, hi, g0, g1, hes, hmf, f0, f4, f5, f10, f11, f12⟩
 have hG0 : 0 < G.length := (List.getElem?_eq_some_iff.1 g0).1
 have hG1 : 1 < G.length := (List.getElem?_eq_some_iff.1 g1).1
 have hA0 : ∀ Z, (G ++ Z)[0]? = some c0 := fun Z => by rw [List.getElem?_append_left hG0]; exact g0
 have hA1 : ∀ Z, (G ++ Z)[1]? = some ⟨0, 0, false, es, 0⟩ := fun Z => by rw [List.getElem?_append_left hG1]; exact g1
 by_cases h : i < vs.length
 ·obtain ⟨v, hx⟩ : ∃ v, vs[i]? = some v := ⟨_, List.getElem?_eq_getElem h⟩
  have hnx := zZ hx
  have hw := zs (i := i) (by omega)
  have hv : cVa.enc v = .agg [.int .i64 v.k, .bool v.b, .bool v.x.s, .lst (v.x.n.map u64), .lst (v.x.d.map u64), .int .i64 v.el] := rfl
  have htk := elsOf_take s hx
  by_cases hk : v.k = s
  ·have hk' : (v.k == s) = true := by simpa using hk
   have hS0 : ∀ Z x, ((G ++ Z).set 1 x)[0]? = some c0 := fun Z x => by rw [List.getElem?_set_ne (by omega)]; exact hA0 Z
   have hS1 : ∀ Z x, ((G ++ Z).set 1 x)[1]? = some x := fun Z x => List.getElem?_set_self (by simp; omega)
   simp [f0, f4, f5, f10, f11, f12, h, hx, hv, hk', hA1, qt, hw, zD, -getElem?_pos, List.getElem?_cons_zero]
   refine ⟨⟨i + 1, by omega, hA0 _, wU v.el (.bool true) es, by rw [hS1], uC _ _ es hes, fun m => ?_, rfl⟩, by omega⟩
   rw [dK m v.el _ es hes, hmf m]
   by_cases hm : v.el = m
   ·subst hm
    rw [if_pos rfl, if_pos ((htk v.el).2 (.inr ⟨hk, rfl⟩))]
   ·rw [if_neg hm]
    by_cases hm2 : m ∈ uU s (vs.take i)
    ·rw [if_pos hm2, if_pos ((htk m).2 (.inl hm2))]
    ·rw [if_neg hm2, if_neg (fun h => by
      rcases (htk m).1 h with h | ⟨_, h⟩
      ·exact hm2 h
      ·exact hm h.symm)]
  ·have hk' : (v.k == s) = false := by simpa using hk
   simp [f0, f4, f5, f10, f11, f12, h, hx, hv, hk', hA0, hA1, qt, hw, zD, -getElem?_pos, List.getElem?_cons_zero]
   refine ⟨⟨i + 1, by omega, hes, fun m => ?_, rfl⟩, by omega⟩
   rw [hmf m]
   by_cases hm2 : m ∈ uU s (vs.take i)
   ·rw [if_pos hm2, if_pos ((htk m).2 (.inl hm2))]
   ·rw [if_neg hm2, if_neg (fun h => by
     rcases (htk m).1 h with h | ⟨h, _⟩
     ·exact hm2 h
     ·exact hk h)]
 ·have hil : i = vs.length := by omega
  subst hil
  rw [List.take_of_length_le (Nat.le_refl _)] at hmf
  simp [f0, f11, f12, qA, qt, -getElem?_pos, List.getElem?_cons_zero]
  simp only [lf18_B1, zr]
  obtain ⟨N, hN⟩ : ∃ N, N = G.length := ⟨_, rfl⟩
  refine zo (fun fr G' => ∃ k : Nat, k ≤ n ∧ G'[0]? = some c0 ∧ G'[1]? = some ⟨0, 0, false, es, 0⟩ ∧ G'[N]? = some ⟨6, 0, false, [.agg [.p (.int .i64 s), .p (.bool false), .p (.bool false), .tight [], .tight [], .p (.int .i64 k)]], 35⟩ ∧
   fr 4 = .optr 0 0 0 0 ∧ fr 5 = .omap 1 0 ∧ fr 8 = .optr N 0 0 0) (fun _ G' => n - (match G'[N]? with | some ⟨_, _, _, [.agg [_, _, _, _, _, .p (.int _ k)]], _⟩ => k.toNat | _ => 0)) ⟨0, by omega, hA0 _, hA1 _, by rw [hN]; simp, by simp [f4], by simp [f5], by simp [hN]⟩ ?_
  rintro fr2 G2 ⟨k, hk, q0, q1, qN, k4, k5, k8⟩
  have hNl := (List.getElem?_eq_some_iff.1 qN).1
  have q0l := (List.getElem?_eq_some_iff.1 q0).1
  have hS0 : ∀ x, (G2.set N x)[0]? = some c0 := fun x => by rw [List.getElem?_set_ne (by omega)]; exact q0
  have hS1 : ∀ x, (G2.set N x)[1]? = some ⟨0, 0, false, es, 0⟩ := fun x => by rw [List.getElem?_set_ne (by omega)]; exact q1
  have hSN : ∀ x, (G2.set N x)[N]? = some x := fun x => List.getElem?_set_self hNl
  by_cases hkn : k = n
  ·subst hkn
   have hm : wJ (k : Int) es = none := by rw [hmf, if_neg n1]
   subst hc0
   have hT0 : ∀ x, (G2.set 0 x)[0]? = some x := fun x => List.getElem?_set_self q0l
   simp [k4, k5, k8, q0, q1, qN, hm, zF, Va.enc, Va.cells, hT0, -getElem?_pos, List.getElem?_cons_zero]
  ·have hm : wJ (k : Int) es = some (.bool true) := by rw [hmf, if_pos (n2 k (by omega) (by omega))]
   have hw := zs (i := k) (by omega)
   simp [k4, k5, k8, q1, qN, hm, hw, hS0, hS1, hSN, -getElem?_pos, List.getElem?_cons_zero]
   refine ⟨⟨k + 1, by omega, rfl⟩, ?_⟩
   have hkl : k < n := Nat.lt_of_le_of_ne hk hkn
   exact Nat.sub_lt_sub_left hkl (Nat.lt_succ_self k)
theorem loop_g {T : Tab} {b : LCode} {Q : LExit → AFr → zb → Prop} (J : Nat → AFr → zb → Prop) {m0 : Nat} {fr : AFr} {H : zb} (h0 : J m0 fr H)
  (h : ∀ m fr H, J m fr H → vc T b (dH (fun fr H => ∃ m, J m fr H) (fun fr H => least (fun m => J m fr H)) m Q) fr H) : vc T (.loop b) Q fr H :=
 zo (fun fr H => ∃ m, J m fr H) (fun fr H => least (fun m => J m fr H)) ⟨m0, h0⟩ (fun fr H hI => h _ fr H (sP hI).1)
theorem fH {J : Nat → AFr → zb → Prop} {m m' : Nat} {fr : AFr} {H : zb} (hj : J m' fr H) (hlt : m' < m) : (∃ m, J m fr H) ∧ least (fun m => J m fr H) < m :=
 ⟨⟨m', hj⟩, Nat.lt_of_le_of_lt ((sP ⟨m', hj⟩).2 m' hj) hlt⟩
def IntMap (es : List AVal) : Prop := ∀ x ∈ es, ∃ k d, x = qh k (.int .i64 d)
def yp (es : List AVal) (n : Int) : Option Int := match wJ n es with
 | some (.int .i64 d) => some d
 | _ => none
theorem ug : ∀ {es : List AVal} (n : Int), IntMap es → wJ n es = (yp es n).map (fun d => PVal.int .i64 d)
 | [], n, _ => rfl
 | x :: r, n, h => by
  obtain ⟨k, d, rfl⟩ := h x (by simp)
  have ih := ug (es := r) n (fun x hx => h x (by simp [hx]))
  unfold yp at ih ⊢
  by_cases hk : n = k
  ·subst hk; simp [qh, wJ]
  ·simp only [qh, wJ, hk, if_false]
   exact ih
theorem IntMap.put {es : List AVal} (n d : Int) : IntMap es → IntMap (wU n (.int .i64 d) es) := by
 induction es with
 | nil => intro _ x hx; simp [wU] at hx; exact ⟨n, d, hx⟩
 | cons a r ih =>
  intro h x hx
  obtain ⟨k, z, rfl⟩ := h a (by simp)
  by_cases hk : n = k
  ·subst hk
   simp [wU, qh] at hx
   rcases hx with hx | hx
   ·exact ⟨n, d, hx⟩
   ·exact h x (by simp [hx])
  ·simp [wU, qh, hk] at hx
   rcases hx with hx | hx
   ·exact ⟨k, z, hx⟩
   ·exact ih (fun x hx => h x (by simp [hx])) x hx
abbrev St := List AVal × Bool
def w1 (d : Int) : Int := IntKind.i64.wrap (d + 1)
def pF (st : St) (e : Int × Int) : St := match yp st.1 e.1 with
 | none => st
 | some d => match yp st.1 e.2 with
  | none => (wU e.2 (.int .i64 (w1 d)) st.1, true)
  | some w => if w > w1 d then (wU e.2 (.int .i64 (w1 d)) st.1, true) else st
theorem av {st : St} {e : Int × Int} (h : IntMap st.1) : IntMap (pF st e).1 := by
 unfold pF
 split
 ·exact h
 ·split
  ·exact h.put _ _
  ·split
   ·exact h.put _ _
   ·exact h
def pG (p : Int × Int) : List (Int × Int) := [p, (p.2, p.1)]
def fL (st : St) (p : Int × Int) : St := (pG p).foldl pF st
theorem ar {st : St} {p : Int × Int} (h : IntMap st.1) : IntMap (fL st p).1 := av (av h)
def di (ps : List (Int × Int)) (st : St) : St := ps.foldl fL st
theorem mS : ∀ (ps : List (Int × Int)) {st : St}, IntMap st.1 → IntMap (di ps st).1
 | [], _, h => h
 | p :: r, _, h => mS r (ar h)
def nU (ps : List (Int × Int)) : Nat → List AVal → Option (List AVal)
 | 0, _ => none
 | f + 1, es => if (di ps (es, false)).2 = true then nU ps f (di ps (es, false)).1 else some (di ps (es, false)).1
theorem xJ {ps : List (Int × Int)} : ∀ {f : Nat} {es r : List AVal}, IntMap es → nU ps f es = some r → IntMap r
 | 0, _, _, _, h => by cases h
 | f + 1, es, r, hi, h => by
  unfold nU at h
  have h1 : IntMap (di ps (es, false)).1 := mS ps hi
  split at h
  ·exact xJ h1 h
  ·cases h; exact h1
def toE (p : Int × Int) (x : Int) : Int := if p.1 = x then p.2 else p.1
def wm (d : Int) : Int := IntKind.i64.wrap (d - 1)
def rD (es : List AVal) (p : Int × Int) (x : Int) : Bool := (decide (p.1 = x) || decide (p.2 = x)) && (match yp es (toE p x) with | some d => decide (d = wm ((yp es x).getD 0)) | none => false)
def stepE (es : List AVal) (ps : List (Int × Int)) (x : Int) : Option (Int × Int) := ps.find? (fun p => rD es p x)
def gK (es : List AVal) (ps : List (Int × Int)) (y : Int) : Nat → Int → Option (List (Int × Int))
 | 0, _ => none
 | f + 1, x => if x = y then some [] else match stepE es ps x with
  | some p => (match gK es ps y f (toE p x) with | some l => some (p :: l) | none => none)
  | none => none
def wayF (ps : List (Int × Int)) (x y : Int) : Option (List (Int × Int) × Int) :=
 match nU ps 1000 [qh y (.int .i64 0)] with
 | none => none
 | some es => match yp es x with
  | none => some ([], 5)
  | some _ => match gK es ps y 1000 x with
   | some l => some (l, 0)
   | none => none
def wayP (ps : List (Int × Int)) (x y : Int) : Option PVal := if ps.length ≤ 1000000 then (match wayF ps x y with
 | some r => some (.tup [.lst (r.1.map cPr.enc), .int .i64 r.2])
 | none => none) else none
theorem b0_walk {Q : LExit → AFr → zb → Prop} {fr : AFr} {G : zb} {p : Int × Int} {st : St} {kk : Nat} (hI : IntMap st.1) (g0 : G[0]? = some ⟨0, 0, false, st.1, 0⟩) (f8 : fr 8 = .omap 0 0) (f9 : fr 9 = .p (.bool st.2)) (f42 : fr 42 = .own kk 0 2 0) (f43 : fr 43 = .p (.int .i64 2)) (f44 : fr 44 = .p (.int .i64 0))
  (gk : G[kk]? = some ⟨2, 0, false, ((pG p).map cPr.enc).map .p, 67⟩) (hkk : kk ≠ 0)
  (hQ : ∀ fr' G', (fr' 0 = fr 0 ∧ fr' 1 = fr 1 ∧ fr' 2 = fr 2 ∧ fr' 6 = fr 6 ∧ fr' 7 = fr 7 ∧ fr' 8 = fr 8 ∧ fr' 30 = fr 30 ∧ fr' 31 = fr 31 ∧ fr' 32 = fr 32) → G'[0]? = some ⟨0, 0, false, (fL st p).1, 0⟩ → fr' 9 = .p (.bool (fL st p).2) → Q .normal fr' G') : vc Tab.none lf17_B0 Q fr G := by
 simp only [lf17_B0, zr]
 refine zo (fun fr' G' => ∃ (i : Nat) (s : St), i ≤ 2 ∧ IntMap s.1 ∧ (fr' 0 = fr 0 ∧ fr' 1 = fr 1 ∧ fr' 2 = fr 2 ∧ fr' 6 = fr 6 ∧ fr' 7 = fr 7 ∧ fr' 8 = fr 8 ∧ fr' 30 = fr 30 ∧ fr' 31 = fr 31 ∧ fr' 32 = fr 32) ∧ G'[0]? = some ⟨0, 0, false, s.1, 0⟩ ∧ fr' 9 = .p (.bool s.2) ∧ fr' 42 = .own kk 0 2 0 ∧ fr' 43 = .p (.int .i64 2) ∧ fr' 44 = .p (.int .i64 i) ∧
  G'[kk]? = some ⟨2, 0, false, ((pG p).map cPr.enc).map .p, 67⟩ ∧ ((pG p).drop i).foldl pF s = fL st p) (fun fr' _ => 2 - zD (fr' 44)) ⟨0, st, by omega, hI, ⟨rfl, rfl, rfl, rfl, rfl, rfl, rfl, rfl, rfl⟩, g0, f9, f42, f43, f44, gk, rfl⟩ ?_
 rintro fr1 G1 ⟨i, s, hi, hs, ⟨z0, z1, z2, z6, z7, z8, z30, z31, z32⟩, q0, k9, k42, k43, k44, qk, hfo⟩
 have k8 : fr1 8 = .omap 0 0 := z8.trans f8
 have hl0 := (List.getElem?_eq_some_iff.1 q0).1
 have hlk := (List.getElem?_eq_some_iff.1 qk).1
 by_cases h : i < 2
 ·obtain ⟨e, he⟩ : ∃ e, (pG p)[i]? = some e := ⟨_, List.getElem?_eq_getElem h⟩
  obtain ⟨ea, eb⟩ := e
  have hdr : (pG p).drop i = (ea, eb) :: (pG p).drop (i + 1) := by
   rw [List.drop_eq_getElem_cons (show i < (pG p).length from h), zZ he]
  rw [hdr, List.foldl_cons] at hfo
  have hel : (((pG p).map cPr.enc).map AVal.p)[i]? = some (.p (.agg [.int .i64 ea, .int .i64 eb])) := by
   rw [List.getElem?_map, List.getElem?_map, he]; rfl
  obtain ⟨D, hD⟩ : ∃ D, D = ((pG p).map cPr.enc).map AVal.p := ⟨_, rfl⟩
  have hDm : D = List.map (AVal.p ∘ cPr.enc) (pG p) := by rw [hD, List.map_map]
  rw [← hD] at qk hel
  obtain ⟨es, bb⟩ := s
  simp only at hs q0 k9
  have hw := zs (i := i) (by omega)
  have hfa := ug ea hs
  have hfb := ug eb hs
  have hA0 : ∀ Z, (G1 ++ Z)[0]? = some ⟨0, 0, false, es, 0⟩ := fun Z => by rw [List.getElem?_append_left hl0]; exact q0
  have hS : ∀ Z x, ((G1 ++ Z).set 0 x)[kk]? = some ⟨2, 0, false, D, 67⟩ := fun Z x => by rw [List.getElem?_set_ne (by omega), List.getElem?_append_left hlk]; exact qk
  have hS0 : ∀ Z x, ((G1 ++ Z).set 0 x)[0]? = some x := fun Z x => List.getElem?_set_self (by simp; omega)
  have hAk : ∀ Z, (G1 ++ Z)[kk]? = some ⟨2, 0, false, D, 67⟩ := fun Z => by rw [List.getElem?_append_left hlk]; exact qk
  have h2 : (i : Int) < 2 := by omega
  cases ha : yp es ea with
  | none =>
   rw [ha] at hfa
   have hr : pF (es, bb) (ea, eb) = (es, bb) := by simp only [pF, ha]
   rw [hr] at hfo
   simp only [Option.map_none] at hfa
   cases hb : yp es eb with
   | none =>
    rw [hb] at hfb
    simp only [Option.map_none] at hfb
    cases bb <;> (
     simp [k8, k9, k42, k43, k44, qk, h2, hel, hA0, hAk, z0, z1, z2, z6, z7, z30, z31, z32, f8, qt, hfa, hfb, hw, zD, -getElem?_pos, List.getElem?_cons_zero, List.getElem?_cons_succ]
     exact ⟨⟨i + 1, by omega, es, hs, rfl, rfl, hDm, hfo⟩, by omega⟩)
   | some w =>
    rw [hb] at hfb
    simp only [Option.map_some] at hfb
    cases bb <;> (
     simp [k8, k9, k42, k43, k44, qk, h2, hel, hA0, hAk, z0, z1, z2, z6, z7, z30, z31, z32, f8, qt, hfa, hfb, hw, zD, -getElem?_pos, List.getElem?_cons_zero, List.getElem?_cons_succ]
     exact ⟨⟨i + 1, by omega, es, hs, rfl, rfl, hDm, hfo⟩, by omega⟩)
  | some d =>
   rw [ha] at hfa
   simp only [Option.map_some] at hfa
   cases hb : yp es eb with
   | none =>
    rw [hb] at hfb
    simp only [Option.map_none] at hfb
    have hr : pF (es, bb) (ea, eb) = (wU eb (.int .i64 (w1 d)) es, true) := by simp only [pF, ha, hb]
    rw [hr] at hfo
    have hin := hs.put eb (w1 d)
    unfold w1 at hfo hin
    simp [k8, k42, k43, k44, qk, h2, hel, hA0, hS, hS0, z0, z1, z2, z6, z7, z30, z31, z32, f8, qt, hfa, hfb, hw, zD, -getElem?_pos, List.getElem?_cons_zero, List.getElem?_cons_succ]
    exact ⟨⟨i + 1, by omega, _, hin, rfl, rfl, hDm, hfo⟩, by omega⟩
   | some w =>
    rw [hb] at hfb
    simp only [Option.map_some] at hfb
    by_cases hwd : w > w1 d
    ·have hr : pF (es, bb) (ea, eb) = (wU eb (.int .i64 (w1 d)) es, true) := by simp only [pF, ha, hb, if_pos hwd]
     rw [hr] at hfo
     have hin := hs.put eb (w1 d)
     have hwd' : IntKind.i64.wrap (d + 1) < w := hwd
     unfold w1 at hfo hin
     simp [k8, k42, k43, k44, qk, h2, hel, hA0, hS, hS0, z0, z1, z2, z6, z7, z30, z31, z32, f8, qt, hfa, hfb, hwd', hw, zD, -getElem?_pos, List.getElem?_cons_zero, List.getElem?_cons_succ]
     exact ⟨⟨i + 1, by omega, _, hin, rfl, rfl, hDm, hfo⟩, by omega⟩
    ·have hr : pF (es, bb) (ea, eb) = (es, bb) := by simp only [pF, ha, hb, if_neg hwd]
     rw [hr] at hfo
     have hwd' : ¬ IntKind.i64.wrap (d + 1) < w := hwd
     cases bb <;> (
      simp [k8, k9, k42, k43, k44, qk, h2, hel, hA0, hAk, z0, z1, z2, z6, z7, z30, z31, z32, f8, qt, hfa, hfb, hwd', hw, zD, -getElem?_pos, List.getElem?_cons_zero, List.getElem?_cons_succ]
      exact ⟨⟨i + 1, by omega, es, hs, rfl, rfl, hDm, hfo⟩, by omega⟩)
 ·have hi2 : i = 2 := by omega
  subst hi2
  have hfo' : s = fL st p := hfo
  subst hfo'
  simp [k43, k44]
  exact hQ _ _ ⟨by simp [z0], by simp [z1], by simp [z2], by simp [z6], by simp [z7], by simp [z8], by simp [z30], by simp [z31], by simp [z32]⟩ q0 (by simp [k9])
theorem b1_walk {Q : LExit → AFr → zb → Prop} {fr : AFr} {G : zb} {ps : List (Int × Int)} {st : St} (hI : IntMap st.1) (hlen : ps.length ≤ 1000000) (g0 : G[0]? = some ⟨0, 0, false, st.1, 0⟩) (f8 : fr 8 = .omap 0 0) (f9 : fr 9 = .p (.bool st.2)) (f30 : fr 30 = .p (.lst (ps.map cPr.enc))) (f31 : fr 31 = .p (.int .i64 ps.length)) (f32 : fr 32 = .p (.int .i64 0))
  (hQ : ∀ fr' G', (fr' 0 = fr 0 ∧ fr' 1 = fr 1 ∧ fr' 2 = fr 2 ∧ fr' 6 = fr 6 ∧ fr' 7 = fr 7 ∧ fr' 8 = fr 8) → G'[0]? = some ⟨0, 0, false, (di ps st).1, 0⟩ → fr' 9 = .p (.bool (di ps st).2) → Q .normal fr' G') : vc Tab.none lf17_B1 Q fr G := by
 simp only [lf17_B1, zr]
 refine zo (fun fr' G' => ∃ (i : Nat) (s : St), i ≤ ps.length ∧ IntMap s.1 ∧ (fr' 0 = fr 0 ∧ fr' 1 = fr 1 ∧ fr' 2 = fr 2 ∧ fr' 6 = fr 6 ∧ fr' 7 = fr 7 ∧ fr' 8 = fr 8) ∧ G'[0]? = some ⟨0, 0, false, s.1, 0⟩ ∧ fr' 9 = .p (.bool s.2) ∧ fr' 30 = .p (.lst (ps.map cPr.enc)) ∧ fr' 31 = .p (.int .i64 ps.length) ∧ fr' 32 = .p (.int .i64 i) ∧
  (ps.drop i).foldl fL s = di ps st) (fun fr' _ => ps.length - zD (fr' 32)) ⟨0, st, by omega, hI, ⟨rfl, rfl, rfl, rfl, rfl, rfl⟩, g0, f9, f30, f31, f32, rfl⟩ ?_
 rintro fr1 G1 ⟨i, s, hi, hs, ⟨z0, z1, z2, z6, z7, z8⟩, q0, k9, k30, k31, k32, hfo⟩
 have k8 : fr1 8 = .omap 0 0 := z8.trans f8
 have hl0 := (List.getElem?_eq_some_iff.1 q0).1
 by_cases h : i < ps.length
 ·obtain ⟨p, hp⟩ : ∃ p, ps[i]? = some p := ⟨_, List.getElem?_eq_getElem h⟩
  have hnp := zZ hp
  have hdr : ps.drop i = p :: ps.drop (i + 1) := by rw [List.drop_eq_getElem_cons h, hnp]
  rw [hdr, List.foldl_cons] at hfo
  have hw := zs (i := i) (by omega)
  obtain ⟨pa, pb⟩ := p
  have hpe : cPr.enc (pa, pb) = .agg [.int .i64 pa, .int .i64 pb] := rfl
  have hA0 : ∀ Z, (G1 ++ Z)[0]? = some ⟨0, 0, false, s.1, 0⟩ := fun Z => by rw [List.getElem?_append_left hl0]; exact q0
  simp [k30, k31, k32, h, hp, hpe, bd, qt, zN, qA, -getElem?_pos, List.getElem?_cons_zero, List.getElem?_cons_succ]
  refine b0_walk (p := (pa, pb)) (st := s) (kk := G1.length + 1) hs (hA0 _) (by simp [k8]) (by simp [k9]) (by simp) (by simp) (by simp) (by rw [bd]; simp [pG, cPr]) (by omega) fun fr2 G2 ⟨y0, y1, y2, y6, y7, y8, y30, y31, y32⟩ p0 j9 => ?_
  simp at y0 y1 y2 y6 y7 y8 y30 y31 y32
  simp [y0, y1, y2, y6, y7, y8, y30, y31, y32, z0, z1, z2, z6, z7, z8, k30, k31, k32, f8, p0, j9, hw, zD]
  have hin : IntMap (fL s (pa, pb)).1 := ar hs
  generalize fL s (pa, pb) = sp at hin hfo
  obtain ⟨ra, rb⟩ := sp
  refine ⟨⟨i + 1, by omega, ra, hin, rfl, ?_⟩, by omega⟩
  cases rb
  ·exact .inl ⟨rfl, rfl, hfo⟩
  ·exact .inr ⟨rfl, rfl, hfo⟩
 ·have hil : i = ps.length := by omega
  subst hil
  rw [List.drop_of_length_le (Nat.le_refl _)] at hfo
  have hfo' : s = di ps st := hfo
  subst hfo'
  simp [k31, k32]
  exact hQ _ _ ⟨by simp [z0], by simp [z1], by simp [z2], by simp [z6], by simp [z7], by simp [z8]⟩ q0 (by simp [k9])
theorem b2_walk {Q : LExit → AFr → zb → Prop} {fr : AFr} {G : zb} {ps : List (Int × Int)} {es esF : List AVal} {m : Nat} (hI : IntMap es) (hlen : ps.length ≤ 1000000) (hit : nU ps m es = some esF) (g0 : G[0]? = some ⟨0, 0, false, es, 0⟩) (f0 : fr 0 = .p (.lst (ps.map cPr.enc))) (f8 : fr 8 = .omap 0 0) (f9 : fr 9 = .p (.bool true))
  (hQ : ∀ fr' G', (fr' 0 = fr 0 ∧ fr' 1 = fr 1 ∧ fr' 2 = fr 2 ∧ fr' 6 = fr 6 ∧ fr' 7 = fr 7 ∧ fr' 8 = fr 8) → G'[0]? = some ⟨0, 0, false, esF, 0⟩ → Q .normal fr' G') : vc Tab.none lf17_B2 Q fr G := by
 simp only [lf17_B2, zr]
 obtain ⟨J, hJ⟩ : ∃ J : Nat → AFr → zb → Prop, J = fun m fr' G' => ∃ es, IntMap es ∧ (fr' 0 = fr 0 ∧ fr' 1 = fr 1 ∧ fr' 2 = fr 2 ∧ fr' 6 = fr 6 ∧ fr' 7 = fr 7 ∧ fr' 8 = fr 8) ∧ G'[0]? = some ⟨0, 0, false, es, 0⟩ ∧ ((fr' 9 = .p (.bool true) ∧ nU ps m es = some esF) ∨ (fr' 9 = .p (.bool false) ∧ m = 0 ∧ es = esF)) := ⟨_, rfl⟩
 refine loop_g J (m0 := m) (by rw [hJ]; exact ⟨es, hI, ⟨rfl, rfl, rfl, rfl, rfl, rfl⟩, g0, .inl ⟨f9, hit⟩⟩) fun m fr1 G1 hj => ?_
 rw [hJ] at hj
 obtain ⟨es, hes, ⟨z0, z1, z2, z6, z7, z8⟩, q0, ⟨k9, hit⟩ | ⟨k9, rfl, rfl⟩⟩ := hj
 ·simp [k9]
  cases m with
  | zero => cases hit
  | succ m =>
  unfold nU at hit
  simp [z0, f0]
  refine b1_walk (ps := ps) (st := (es, false)) hes hlen q0 (by simp [z8, f8]) (by simp) (by simp) (by simp) (by simp) fun fr2 G2 ⟨y0, y1, y2, y6, y7, y8⟩ p0 j9 => ?_
  simp at y0 y1 y2 y6 y7 y8
  have hin : IntMap (di ps (es, false)).1 := mS ps hes
  simp
  split at hit
  ·rename_i hg
   refine fH (m' := m) ?_ (Nat.lt_succ_self m)
   rw [hJ]
   exact ⟨_, hin, ⟨y0.trans z0, y1.trans z1, y2.trans z2, y6.trans z6, y7.trans z7, y8.trans z8⟩, p0, .inl ⟨by rw [j9, hg], hit⟩⟩
  ·rename_i hg
   cases hit
   refine fH (m' := 0) ?_ (Nat.succ_pos m)
   rw [hJ]
   exact ⟨_, hin, ⟨y0.trans z0, y1.trans z1, y2.trans z2, y6.trans z6, y7.trans z7, y8.trans z8⟩, p0, .inr ⟨by rw [j9]; simp at hg; rw [hg], rfl, rfl⟩⟩
 ·simp [k9]
  exact hQ _ _ ⟨by simp [z0], by simp [z1], by simp [z2], by simp [z6], by simp [z7], by simp [z8]⟩ q0
theorem xw {es : List AVal} {ps : List (Int × Int)} {y : Int} : ∀ {f : Nat} {x : Int} {l : List (Int × Int)}, gK es ps y f x = some l → l.length < f
 | 0, _, _, h => by cases h
 | f + 1, x, l, h => by
  unfold gK at h
  split at h
  ·cases h; simp
  ·split at h
   ·split at h
    ·rename_i r hr
     cases h
     have := xw hr
     simp; omega
    ·cases h
   ·cases h
theorem find_drop {α : Type} {q : α → Bool} : ∀ {l : List α} {i : Nat} {p : α}, (l.drop i).find? q = some p → ∀ {a : α}, l[i]? = some a → (q a = true ∧ a = p) ∨ (q a = false ∧ (l.drop (i + 1)).find? q = some p) := by
 intro l i p h a ha
 have hi := (List.getElem?_eq_some_iff.1 ha).1
 have hd : l.drop i = a :: l.drop (i + 1) := by rw [List.drop_eq_getElem_cons hi, zZ ha]
 rw [hd, List.find?_cons] at h
 cases hq : q a with
 | true => rw [hq] at h; cases h; exact .inl ⟨rfl, rfl⟩
 | false => rw [hq] at h; exact .inr ⟨rfl, h⟩
def xY (G : zb) (v : AVal) (out : List (Int × Int)) : Prop := (out = [] ∧ v = .tight []) ∨ ∃ m w, 0 < m ∧ v = .own m 0 out.length w ∧ G[m]? = some ⟨2, w, false, (out.map cPr.enc).map .p, 67⟩
theorem b3_walk {Q : LExit → AFr → zb → Prop} {fr : AFr} {G : zb} {ps : List (Int × Int)} {es : List AVal} {out : List (Int × Int)} {p : Int × Int} {x : Int} {v20 : AVal} (hI : IntMap es) (hlen : ps.length ≤ 1000000) (hol : out.length ≤ 1000000) (g0 : G[0]? = some ⟨0, 0, false, es, 0⟩) (f1 : fr 1 = .p (.int .i64 x)) (f8 : fr 8 = .omap 0 0) (f20 : fr 20 = v20) (hout : xY G v20 out)
  (f91 : fr 91 = .p (.lst (ps.map cPr.enc))) (f92 : fr 92 = .p (.int .i64 ps.length)) (f93 : fr 93 = .p (.int .i64 0)) (hst : stepE es ps x = some p) (hfx : ∃ d, yp es x = some d)
  (hQ : ∀ fr' G', (fr' 0 = fr 0 ∧ fr' 2 = fr 2 ∧ fr' 6 = fr 6 ∧ fr' 7 = fr 7 ∧ fr' 8 = fr 8) → G'[0]? = some ⟨0, 0, false, es, 0⟩ → fr' 1 = .p (.int .i64 (toE p x)) → xY G' (fr' 20) (out ++ [p]) → Q .normal fr' G') : vc Tab.none lf17_B3 Q fr G := by
 simp only [lf17_B3, zr]
 refine zo (fun fr' G' => ∃ (i : Nat), i ≤ ps.length ∧ (fr' 0 = fr 0 ∧ fr' 2 = fr 2 ∧ fr' 6 = fr 6 ∧ fr' 7 = fr 7 ∧ fr' 8 = fr 8) ∧ G'[0]? = some ⟨0, 0, false, es, 0⟩ ∧ fr' 1 = .p (.int .i64 x) ∧ fr' 20 = v20 ∧ xY G' v20 out ∧ fr' 91 = .p (.lst (ps.map cPr.enc)) ∧ fr' 92 = .p (.int .i64 ps.length) ∧ fr' 93 = .p (.int .i64 i) ∧
  (ps.drop i).find? (fun p => rD es p x) = some p) (fun fr' _ => ps.length - zD (fr' 93)) ⟨0, by omega, ⟨rfl, rfl, rfl, rfl, rfl⟩, g0, f1, f20, hout, f91, f92, f93, hst⟩ ?_
 rintro fr1 G1 ⟨i, hi, ⟨z0, z2, z6, z7, z8⟩, q0, k1, k20, ho, k91, k92, k93, hfd⟩
 have k8 : fr1 8 = .omap 0 0 := z8.trans f8
 have hl0 := (List.getElem?_eq_some_iff.1 q0).1
 by_cases h : i < ps.length
 ·obtain ⟨e, hp⟩ : ∃ p, ps[i]? = some p := ⟨_, List.getElem?_eq_getElem h⟩
  have hnp := zZ hp
  have hw := zs (i := i) (by omega)
  have hfd2 := find_drop hfd hp
  obtain ⟨ea, eb⟩ := e
  have hpe : cPr.enc (ea, eb) = .agg [.int .i64 ea, .int .i64 eb] := rfl
  have hA0 : ∀ Z, (G1 ++ Z)[0]? = some ⟨0, 0, false, es, 0⟩ := fun Z => by rw [List.getElem?_append_left hl0]; exact q0
  obtain ⟨dx, hdx⟩ := hfx
  have hfgx := ug x hI
  rw [hdx] at hfgx
  simp only [Option.map_some] at hfgx
  have hfgt := ug (toE (ea, eb) x) hI
  have hok : rD es (ea, eb) x = ((decide (ea = x) || decide (eb = x)) && (match yp es (toE (ea, eb) x) with | some d => decide (d = IntKind.i64.wrap (dx - 1)) | none => false)) := by
   simp only [rD, hdx, wm]
   rfl
  have hoA : ∀ Z, xY (G1 ++ Z) v20 out := fun Z => by
   rcases ho with h | ⟨m, w, h1, h2, h3⟩
   ·exact .inl h
   ·exact .inr ⟨m, w, h1, h2, by rw [List.getElem?_append_left (List.getElem?_eq_some_iff.1 h3).1]; exact h3⟩
  unfold toE at hfgt hok
  have hb1 : 1 ≤ maxLen := by decide
  have hb2 : (out.length + 1) * 16 ≤ 140737488355328 := by omega
  have hb3 : out.length + 1 ≤ maxLen := by have : maxLen = 9223372036854775807 := rfl; omega
  by_cases ha : ea = x
  ·simp only [ha, if_true] at hfgt hok
   subst ha
   cases ht : yp es eb with
   | none =>
    rw [ht] at hfgt hok
    simp only [Option.map_none] at hfgt
    simp at hok
    rcases hfd2 with ⟨h1, -⟩ | ⟨-, h2⟩
    ·rw [hok] at h1; cases h1
    ·simp [k1, k8, k20, k91, k92, k93, h, hp, hpe, hA0, hfgt, hw, zD, z0, z2, z6, z7, f8, qt, -getElem?_pos, List.getElem?_cons_zero, List.getElem?_cons_succ]
     exact ⟨⟨i + 1, by omega, hoA _, rfl, h2⟩, by omega⟩
   | some d =>
    rw [ht] at hfgt hok
    simp only [Option.map_some] at hfgt
    by_cases hd : d = IntKind.i64.wrap (dx - 1)
    ·have hd' : (d == IntKind.i64.wrap (dx - 1)) = true := by simpa using hd
     simp [hd] at hok
     rcases hfd2 with ⟨-, h1⟩ | ⟨h1, -⟩
     ·subst h1
      rcases ho with ⟨rfl, rfl⟩ | ⟨m, w, hm0, rfl, gm⟩
      ·simp [k1, k8, k20, k91, k92, k93, h, hp, hpe, hA0, hfgt, hfgx, zD, f8, hd, zN, hb1, bd, qt, -getElem?_pos, List.getElem?_cons_zero, List.getElem?_cons_succ]
       exact hQ _ _ ⟨by simp [z0], by simp [z2], by simp [z6], by simp [z7], by simp [z8]⟩ (hA0 _) (by simp [toE, ]) (.inr ⟨G1.length + 2, 0, by omega, by simp, by rw [bd]; rfl⟩)
      ·obtain ⟨Lo, hLo⟩ : ∃ L, L = (out.map cPr.enc).map AVal.p := ⟨_, rfl⟩
       have hLl : Lo.length = out.length := by rw [hLo]; simp
       rw [← hLo] at gm
       have hml := (List.getElem?_eq_some_iff.1 gm).1
       have hM : ∀ Z, (G1 ++ Z)[m]? = some ⟨2, w, false, Lo, 67⟩ := fun Z => by rw [List.getElem?_append_left hml]; exact gm
       simp [k1, k8, k20, k91, k92, k93, h, hp, hpe, hA0, hfgt, hfgx, zD, f8, hd, zN, hM, hLl, hb2, hb3, bd, qt, -getElem?_pos, List.getElem?_cons_zero, List.getElem?_cons_succ]
       exact hQ _ _ ⟨by simp [z0], by simp [z2], by simp [z6], by simp [z7], by simp [z8]⟩ (by rw [List.getElem?_set_ne (by omega)]; exact hA0 _) (by simp [toE, ]) (.inr ⟨m, w + 1, hm0, by simp, by rw [List.getElem?_set_self (by simp; omega), hLo]; simp [cPr]⟩)
     ·rw [hok] at h1; cases h1
    ·have hd' : (d == IntKind.i64.wrap (dx - 1)) = false := by simpa using hd
     simp [hd] at hok
     rcases hfd2 with ⟨h1, -⟩ | ⟨-, h2⟩
     ·rw [hok] at h1; cases h1
     ·simp [k1, k8, k20, k91, k92, k93, h, hp, hpe, hA0, hfgt, hfgx, hw, zD, z0, z2, z6, z7, f8, hd', qt, -getElem?_pos, List.getElem?_cons_zero, List.getElem?_cons_succ]
      exact ⟨⟨i + 1, by omega, hoA _, rfl, h2⟩, by omega⟩
  ·have ha1 : (ea != x) = true := by simpa using ha
   have ha2 : (ea == x) = false := by simpa using ha
   simp only [ha, if_false] at hfgt hok
   by_cases hb : eb = x
   ·subst hb
    cases ht : yp es ea with
    | none =>
     rw [ht] at hfgt hok
     simp only [Option.map_none] at hfgt
     simp at hok
     rcases hfd2 with ⟨h1, -⟩ | ⟨-, h2⟩
     ·rw [hok] at h1; cases h1
     ·simp [k1, k8, k20, k91, k92, k93, h, hp, hpe, hA0, hfgt, hw, zD, z0, z2, z6, z7, f8, ha1, ha2, qt, -getElem?_pos, List.getElem?_cons_zero, List.getElem?_cons_succ]
      exact ⟨⟨i + 1, by omega, hoA _, rfl, h2⟩, by omega⟩
    | some d =>
     rw [ht] at hfgt hok
     simp only [Option.map_some] at hfgt
     by_cases hd : d = IntKind.i64.wrap (dx - 1)
     ·have hd' : (d == IntKind.i64.wrap (dx - 1)) = true := by simpa using hd
      simp [hd] at hok
      rcases hfd2 with ⟨-, h1⟩ | ⟨h1, -⟩
      ·subst h1
       rcases ho with ⟨rfl, rfl⟩ | ⟨m, w, hm0, rfl, gm⟩
       ·simp [k1, k8, k20, k91, k92, k93, h, hp, hpe, hA0, hfgt, hfgx, zD, f8, hd, ha1, ha2, zN, hb1, bd, qt, -getElem?_pos, List.getElem?_cons_zero, List.getElem?_cons_succ]
        exact hQ _ _ ⟨by simp [z0], by simp [z2], by simp [z6], by simp [z7], by simp [z8]⟩ (hA0 _) (by simp [toE, ha]) (.inr ⟨G1.length + 2, 0, by omega, by simp, by rw [bd]; rfl⟩)
       ·obtain ⟨Lo, hLo⟩ : ∃ L, L = (out.map cPr.enc).map AVal.p := ⟨_, rfl⟩
        have hLl : Lo.length = out.length := by rw [hLo]; simp
        rw [← hLo] at gm
        have hml := (List.getElem?_eq_some_iff.1 gm).1
        have hM : ∀ Z, (G1 ++ Z)[m]? = some ⟨2, w, false, Lo, 67⟩ := fun Z => by rw [List.getElem?_append_left hml]; exact gm
        simp [k1, k8, k20, k91, k92, k93, h, hp, hpe, hA0, hfgt, hfgx, zD, f8, hd, ha1, ha2, zN, hM, hLl, hb2, hb3, bd, qt, -getElem?_pos, List.getElem?_cons_zero, List.getElem?_cons_succ]
        exact hQ _ _ ⟨by simp [z0], by simp [z2], by simp [z6], by simp [z7], by simp [z8]⟩ (by rw [List.getElem?_set_ne (by omega)]; exact hA0 _) (by simp [toE, ha]) (.inr ⟨m, w + 1, hm0, by simp, by rw [List.getElem?_set_self (by simp; omega), hLo]; simp [cPr]⟩)
      ·rw [hok] at h1; cases h1
     ·have hd' : (d == IntKind.i64.wrap (dx - 1)) = false := by simpa using hd
      simp [hd] at hok
      rcases hfd2 with ⟨h1, -⟩ | ⟨-, h2⟩
      ·rw [hok] at h1; cases h1
      ·simp [k1, k8, k20, k91, k92, k93, h, hp, hpe, hA0, hfgt, hfgx, hw, zD, z0, z2, z6, z7, f8, hd', ha1, ha2, qt, -getElem?_pos, List.getElem?_cons_zero, List.getElem?_cons_succ]
       exact ⟨⟨i + 1, by omega, hoA _, rfl, h2⟩, by omega⟩
   ·have hb4 : (eb == x) = false := by simpa using hb
    cases ht : yp es ea with
    | none =>
     rw [ht] at hfgt hok
     simp only [Option.map_none] at hfgt
     simp [hb] at hok
     rcases hfd2 with ⟨h1, -⟩ | ⟨-, h2⟩
     ·rw [hok] at h1; cases h1
     ·simp [k1, k8, k20, k91, k92, k93, h, hp, hpe, hA0, hfgt, hw, zD, z0, z2, z6, z7, f8, ha1, ha2, hb4, qt, -getElem?_pos, List.getElem?_cons_zero, List.getElem?_cons_succ]
      exact ⟨⟨i + 1, by omega, hoA _, rfl, h2⟩, by omega⟩
    | some d =>
     rw [ht] at hfgt hok
     simp only [Option.map_some] at hfgt
     simp [hb] at hok
     rcases hfd2 with ⟨h1, -⟩ | ⟨-, h2⟩
     ·rw [hok] at h1; cases h1
     ·simp [k1, k8, k20, k91, k92, k93, h, hp, hpe, hA0, hfgt, hw, zD, z0, z2, z6, z7, f8, ha1, ha2, hb4, qt, -getElem?_pos, List.getElem?_cons_zero, List.getElem?_cons_succ]
      exact ⟨⟨i + 1, by omega, hoA _, rfl, h2⟩, by omega⟩
 ·have hil : i = ps.length := by omega
  subst hil
  rw [List.drop_of_length_le (Nat.le_refl _)] at hfd
  cases hfd
theorem b4_walk {Q : LExit → AFr → zb → Prop} {fr : AFr} {G : zb} {ps : List (Int × Int)} {es : List AVal} {x y : Int} {l : List (Int × Int)} {m : Nat} (hI : IntMap es) (hlen : ps.length ≤ 1000000) (hll : l.length ≤ 1000000) (hp : gK es ps y m x = some l) (hfx : ∃ d, yp es x = some d) (g0 : G[0]? = some ⟨0, 0, false, es, 0⟩) (f0 : fr 0 = .p (.lst (ps.map cPr.enc))) (f1 : fr 1 = .p (.int .i64 x)) (f2 : fr 2 = .p (.int .i64 y)) (f8 : fr 8 = .omap 0 0) (f20 : fr 20 = .tight [])
  (hQ : ∀ fr' G' out, out = l → xY G' (fr' 20) out → Q .normal fr' G') : vc Tab.none lf17_B4 Q fr G := by
 simp only [lf17_B4, zr]
 obtain ⟨J, hJ⟩ : ∃ J : Nat → AFr → zb → Prop, J = fun m fr' G' => ∃ (x : Int) (out rest : List (Int × Int)), gK es ps y m x = some rest ∧ l = out ++ rest ∧ (∃ d, yp es x = some d) ∧ G'[0]? = some ⟨0, 0, false, es, 0⟩ ∧ fr' 0 = .p (.lst (ps.map cPr.enc)) ∧ fr' 1 = .p (.int .i64 x) ∧ fr' 2 = .p (.int .i64 y) ∧ fr' 8 = .omap 0 0 ∧ xY G' (fr' 20) out := ⟨_, rfl⟩
 refine loop_g J (m0 := m) (by rw [hJ]; exact ⟨x, [], l, hp, rfl, hfx, g0, f0, f1, f2, f8, .inl ⟨rfl, f20⟩⟩) fun m fr1 G1 hj => ?_
 rw [hJ] at hj
 obtain ⟨x, out, rest, hp, hl, hfx, q0, k0, k1, k2, k8, ho⟩ := hj
 cases m with
 | zero => cases hp
 | succ m =>
 unfold gK at hp
 by_cases hxy : x = y
 ·rw [if_pos hxy] at hp
  cases hp
  rw [List.append_nil] at hl
  have hb : (x != y) = false := by simpa using hxy
  simp [k1, k2, hb]
  exact hQ _ _ out hl.symm (by simpa using ho)
 ·rw [if_neg hxy] at hp
  have hb : (x != y) = true := by simpa using hxy
  cases hst : stepE es ps x with
  | none => rw [hst] at hp; cases hp
  | some p =>
  rw [hst] at hp
  simp only at hp
  cases hpr : gK es ps y m (toE p x) with
  | none => rw [hpr] at hp; cases hp
  | some r =>
  rw [hpr] at hp
  simp only [Option.some.injEq] at hp
  subst hp
  have hft : ∃ d, yp es (toE p x) = some d := by
   have := List.find?_some hst
   unfold rD at this
   simp only [Bool.and_eq_true] at this
   cases hh : yp es (toE p x) with
   | none => rw [hh] at this; simp at this
   | some d => exact ⟨d, rfl⟩
  have hol : out.length ≤ 1000000 := by
   have := congrArg List.length hl
   simp at this
   omega
  simp [k1, k2, hb, k0]
  refine b3_walk (ps := ps) (p := p) (x := x) (out := out) hI hlen hol q0 (by simp [k1]) (by simp [k8]) rfl (by simpa using ho) (by simp) (by simp) (by simp) hst hfx fun fr2 G2 ⟨y0, y2, y6, y7, y8⟩ p0 j1 jo => ?_
  simp at y0 y2 y6 y7 y8
  simp
  refine fH (m' := m) ?_ (Nat.lt_succ_self m)
  rw [hJ]
  exact ⟨toE p x, out ++ [p], r, hpr, by rw [hl]; simp, hft, p0, y0.trans k0, j1, y2.trans k2, y8.trans k8, jo⟩
theorem merge_ok : zG Tryz.prog base 17 (za (sp3 cPr.lst cI cI wayP)) := by
 refine zd zB Tab.none_ok ze low17 fun args z hs hf => ?_
 obtain ⟨ps, x, y, -, -, -, rfl, hz⟩ := gn hs
 unfold wayP at hz
 split at hz
 case isFalse => cases hz
 rename_i hlen
 cases hw : wayF ps x y with
 | none => rw [hw] at hz; cases hz
 | some r =>
 rw [hw] at hz
 cases hz
 unfold wayF at hw
 cases hit : nU ps 1000 [qh y (.int .i64 0)] with
 | none => rw [hit] at hw; cases hw
 | some es =>
 rw [hit] at hw
 simp only at hw
 refine ⟨by simp [lf17], ?_⟩
 simp only [cI, Cd.lst]
 have hI0 : IntMap [qh y (.int .i64 0)] := fun a ha => by simp at ha; exact ⟨y, 0, ha⟩
 have hI := xJ hI0 hit
 have hfx := ug x hI
 simp [lf17, wU]
 refine b2_walk hI0 hlen hit rfl (by simp) (by simp) (by simp) fun fr G ⟨z0, z1, z2, z6, z7, z8⟩ g0 => ?_
 simp at z0 z1 z2 z6 z7 z8
 cases hx : yp es x with
 | none =>
  rw [hx] at hw hfx
  simp only [Option.map_none] at hfx
  cases hw
  simp [z8, z1, g0, hfx]
 | some d =>
  rw [hx] at hw hfx
  simp only [Option.map_some] at hfx
  cases hpp : gK es ps y 1000 x with
  | none => rw [hpp] at hw; cases hw
  | some l =>
  rw [hpp] at hw
  cases hw
  have hll := xw hpp
  simp [z8, z1, g0, hfx]
  refine b4_walk hI hlen (by omega) hpp ⟨d, hx⟩ g0 (by simp [z0]) (by simp [z1]) (by simp [z2]) (by simp [z8]) (by simp) fun fr2 G2 out hout ho => ?_
  subst hout
  rcases ho with ⟨rfl, h20⟩ | ⟨m, w, -, h20, gm⟩
  ·simp [h20]
  ·have ht : List.take out.length ((out.map cPr.enc).map AVal.p) = (out.map cPr.enc).map AVal.p := List.take_of_length_le (by simp)
   simp only [List.map_map] at ht gm
   have hm2 := vV G2 6 (out.map cPr.enc)
   have hm3 := vV G2 7 (out.map cPr.enc)
   simp only [List.map_map] at hm2 hm3
   simp [h20, gm, ht, hm2]
def isRef : AVal → Bool
 | .tight _ => true
 | .own _ _ _ _ => true
 | _ => false
def kR : AVal → Option (List UInt8)
 | .agg (.p (.str nm) :: rv :: rest) => if isRef rv = true ∧ rest.length = 6 ∧ rest.all AVal.isCell = true then some nm else none
 | _ => none
theorem jr {x : AVal} {nm : List UInt8} (h : kR x = some nm) : ∃ rv r1 r2 r3 r4 r5 r6, x = .agg [.p (.str nm), rv, r1, r2, r3, r4, r5, r6] ∧ isRef rv = true ∧ r1.isCell = true ∧ r2.isCell = true ∧ r3.isCell = true ∧ r4.isCell = true ∧ r5.isCell = true ∧ r6.isCell = true := by
 unfold kR at h
 split at h
 ·rename_i rv rest
  split at h
  ·rename_i hc
   cases h
   obtain ⟨h1, h2, h3⟩ := hc
   match rest, h2, h3 with
   | [r1, r2, r3, r4, r5, r6], _, h3 =>
    simp only [List.all_cons, List.all_nil, Bool.and_true, Bool.and_eq_true] at h3
    exact ⟨rv, r1, r2, r3, r4, r5, r6, rfl, h1, h3⟩
  ·cases h
 ·cases h
theorem cE {nm : PVal} {rv : AVal} (h : isRef rv = true) (l : List AVal) : dj (.p nm :: rv :: l) = .agg (.p nm :: rv :: l) ∧ rv.isCell = true := by
 cases rv <;> first | (cases h; done) | exact ⟨rfl, rfl⟩
theorem fX {nm : PVal} {rv : AVal} (h : isRef rv = true) (l : List AVal) : j3 (.p nm :: rv :: l) = none := by
 cases rv <;> first | (cases h; done) | rfl
def xC (H : zb) (q w : Nat) : Option (List UInt8) := match H[q]? with
 | some e => if e.ver = w then (match e.elems with
  | [.p (.agg [.int .i64 _, .str f, .lst _])] => some f
  | _ => none) else none
 | none => none
theorem madeF_some {H : zb} {q w : Nat} {f : List UInt8} (h : xC H q w = some f) : ∃ e a b, H[q]? = some e ∧ e.ver = w ∧ e.elems = [.p (.agg [.int .i64 a, .str f, .lst b])] := by
 unfold xC at h
 split at h
 ·rename_i e he
  split at h
  ·rename_i hv
   split at h
   ·rename_i a f' b hel
    cases h
    exact ⟨e, a, b, he, hv, hel⟩
   ·cases h
  ·cases h
 ·cases h
def sTb1 : List AVal → zb → Option (AVal × zb)
 | [x, .optr q w 0 0], H => match kR x with
  | some nm => (match xC H q w with
   | some f => some (.p (.bool (nm == f)), H)
   | none => none)
  | none => none
 | _, _ => none
theorem tb1_ok : bq Tryz.prog base 29 sTb1 := by
 refine wC zB Tab.none_ok ze low29 fun args H r H' hs hf hb => ?_
 unfold sTb1 at hs
 split at hs
 case h_2 => cases hs
 rename_i x q w
 cases hx : kR x with
 | none => rw [hx] at hs; cases hs
 | some nm =>
 rw [hx] at hs
 cases hm : xC H q w with
 | none => rw [hm] at hs; cases hs
 | some f =>
 rw [hm] at hs
 cases hs
 obtain ⟨rv, r1, r2, r3, r4, r5, r6, rfl, c7, c1, c2, c3, c4, c5, c6⟩ := jr hx
 obtain ⟨e, a, b, he, hv, hel⟩ := madeF_some hm
 obtain ⟨es, ev, ef, ee, et⟩ := e
 simp only at hv hel
 subst hv hel
 refine ⟨by simp [lf29], rfl, hb, .p _, ?_⟩
 have hl := (List.getElem?_eq_some_iff.1 he).1
 have hA : ∀ Z, (H ++ Z)[q]? = some ⟨es, ev, ef, [.p (.agg [.int .i64 a, .str f, .lst b])], et⟩ := fun Z => by rw [List.getElem?_append_left hl]; exact he
 have hb1 : dV .eql nm f = some (.bool (nm == f)) := rfl
 have c0 : (AVal.p (.str nm)).isCell = true := rfl
 have c8 := (cE (nm := .str nm) c7 []).2
 simp [lf29, -AVal.isCell, c0, c1, c2, c3, c4, c5, c6, c8, hA, qt, hb1, yS, finish, zP, qT, -getElem?_pos, List.getElem?_cons_zero, List.getElem?_cons_succ]
def idxN (f : List UInt8) : List AVal → Nat → Option Int
 | [], _ => some (-1)
 | x :: r, i => match kR x with
  | some nm => if (nm == f) = true then some i else idxN f r (i + 1)
  | none => none
def sIxT : List AVal → zb → Option (AVal × zb)
 | [.tight [], .clo 29 [.optr _ _ 0 0]], H => some (.p (.int .i64 (-1)), H)
 | [.own k 0 n v, .clo 29 [.optr q w 0 0]], H => match H[k]? with
  | some e => if e.ver = v ∧ e.size = 8 ∧ n = e.elems.length ∧ n ≤ 1000000 then
    (match xC H q w with
    | some f => (match idxN f e.elems 0 with | some i => some (.p (.int .i64 i), H) | none => none)
    | none => none)
   else none
  | none => none
 | _, _ => none
def Tix1 : Tab := Tab.none.own 29 sTb1
theorem Tix1_ok : TabOk Tryz.prog base Tix1 := Tab.own_ok Tab.none_ok tb1_ok
def sTb1K := sTb1
theorem Tix1_mu (a : List AVal) (H : zb) : Tix1.mu 29 a H = sTb1K a H := rfl
theorem ixT_ok : bq Tryz.prog base 28 sIxT := by
 refine wC zB Tix1_ok ze low28 fun args H r H' hs hf hb => ?_
 unfold sIxT at hs
 split at hs
 case h_3 => cases hs
 ·rename_i q w
  cases hs
  refine ⟨by simp [lf28], rfl, hb, .p _, ?_⟩
  simp [lf28]
  simp only [lf28_B0, zr]
  refine zo (fun fr G => G = H ∧ fr 7 = .p (.int .i64 0) ∧ fr 8 = .p (.int .i64 0)) (fun _ _ => 0) ⟨rfl, by simp, by simp⟩ ?_
  rintro fr G ⟨rfl, f7, f8⟩
  simp [f7, f8, yS, finish, zP, qT]
 ·rename_i k n v q w
  cases hk : H[k]? with
  | none => rw [hk] at hs; cases hs
  | some e =>
  rw [hk] at hs
  simp only at hs
  split at hs
  case isFalse => cases hs
  rename_i hc
  obtain ⟨h1, h2, h3, h4⟩ := hc
  cases hm : xC H q w with
  | none => rw [hm] at hs; cases hs
  | some f =>
  rw [hm] at hs
  simp only at hs
  cases hi : idxN f e.elems 0 with
  | none => rw [hi] at hs; cases hs
  | some i =>
  rw [hi] at hs
  cases hs
  obtain ⟨es, ev, ef, ee, et⟩ := e
  simp only at h1 h2 h3 hi
  subst h1 h2 h3
  refine ⟨by simp [lf28], rfl, hb, .p _, ?_⟩
  simp [lf28, hk]
  simp only [lf28_B0, zr]
  refine zo (fun fr G => G = H ∧ ∃ j : Nat, j ≤ ee.length ∧ fr 0 = .own k 0 ee.length ev ∧ fr 1 = .clo 29 [.optr q w 0 0] ∧ fr 7 = .p (.int .i64 ee.length) ∧ fr 8 = .p (.int .i64 j) ∧ idxN f (ee.drop j) j = some i) (fun fr _ => ee.length - zD (fr 8)) ⟨rfl, 0, by omega, by simp, by simp, by simp, by simp, by simpa using hi⟩ ?_
  rintro fr G ⟨rfl, j, hj, f0, f1, f7, f8, hix⟩
  by_cases h : j < ee.length
  ·obtain ⟨x, hx⟩ : ∃ x, ee[j]? = some x := ⟨_, List.getElem?_eq_getElem h⟩
   have hnx := zZ hx
   have hdr : ee.drop j = x :: ee.drop (j + 1) := by rw [List.drop_eq_getElem_cons h, hnx]
   rw [hdr] at hix
   simp only [idxN] at hix
   have hw := zs (i := j) (by omega)
   cases hn : kR x with
   | none => rw [hn] at hix; cases hix
   | some nm =>
   rw [hn] at hix
   simp only at hix
   have hcall : sTb1K [x, .optr q w 0 0] G = some (.p (.bool (nm == f)), G) := by simp only [sTb1K, sTb1, hn, hm]
   obtain ⟨rv, r1, r2, r3, r4, r5, r6, rfl, c7, c1, c2, c3, c4, c5, c6⟩ := jr hn
   have hma := fX (nm := .str nm) c7 [r1, r2, r3, r4, r5, r6]
   cases hnf : (nm == f) with
   | true =>
    rw [hnf] at hix hcall
    simp only [if_true, Option.some.injEq] at hix
    subst hix
    simp [f0, f1, f7, f8, h, hk, hx, hcall, hma, Tix1_mu, yS, finish, zP, qT, -getElem?_pos]
   | false =>
    rw [hnf] at hix hcall
    simp only [Bool.false_eq_true, if_false] at hix
    simp [f0, f1, f7, f8, h, hk, hx, hcall, hma, hw, zD, Tix1_mu, -getElem?_pos]
    exact ⟨⟨j + 1, by omega, rfl, hix⟩, by omega⟩
  ·have hil : j = ee.length := by omega
   subst hil
   rw [List.drop_of_length_le (Nat.le_refl _)] at hix
   cases hix
   simp [f7, f8, yS, finish, zP, qT]
def py (H : zb) (q w : Nat) : Option (List Va) := match H[q]? with
 | some e => if e.ver = w then (match e.elems with
  | [.p (.lst al)] => j0 cVa.dec al
  | _ => none) else none
 | none => none
theorem argsF_some {H : zb} {q w : Nat} {l : List Va} (h : py H q w = some l) : cVa.wfL l ∧ ∃ e, H[q]? = some e ∧ e.ver = w ∧ e.elems = [.p (.lst (l.map Va.enc))] := by
 unfold py at h
 split at h
 ·rename_i e he
  split at h
  ·rename_i hv
   split at h
   ·rename_i al hel
    obtain ⟨rfl, wl⟩ := cVa.edL _ _ h
    exact ⟨wl, e, he, hv, hel⟩
   ·cases h
  ·cases h
 ·cases h
def eT : List AVal → zb → Option (AVal × zb)
 | [.p x, .optr q w 0 0], H => match cRw.dec x with
  | some r => (match py H q w with
   | some l => some (.p (.bool (wT r.ag l)), H)
   | none => none)
  | none => none
 | _, _ => none
def Trw1 : Tab := Tab.none.with 48 (za eW)
theorem Trw1_ok : TabOk Tryz.prog base Trw1 := Tab.with_ok Tab.none_ok eqv_ok
theorem Trw1_mu (f : FuncId) (a : List AVal) (H : zb) : Trw1.mu f a H = none := (rfl)
theorem Trw1_fns : Trw1.fn 48 = (za eW) := (rfl)
theorem row1_ok : bq Tryz.prog base 55 eT := by
 refine wC zB Trw1_ok ze low55 fun args H r H' hs hf hb => ?_
 unfold eT at hs
 split at hs
 case h_2 => cases hs
 rename_i x q w
 cases hx : cRw.dec x with
 | none => rw [hx] at hs; cases hs
 | some rw' =>
 rw [hx] at hs
 simp only at hs
 cases hm : py H q w with
 | none => rw [hm] at hs; cases hs
 | some l =>
 rw [hm] at hs
 cases hs
 obtain ⟨rfl, wr⟩ := cRw.ed _ _ hx
 obtain ⟨wl, e, he, hv, hel⟩ := argsF_some hm
 obtain ⟨es, ev, ef, ee, et⟩ := e
 simp only at hv hel
 subst hv hel
 refine ⟨by simp [lf55], rfl, hb, .p _, ?_⟩
 have hl := (List.getElem?_eq_some_iff.1 he).1
 have hA : ∀ Z, (H ++ Z)[q]? = some ⟨es, ev, ef, [.p (.lst (l.map Va.enc))], et⟩ := fun Z => by rw [List.getElem?_append_left hl]; exact he
 have hE := sEqV_at wr.1 wl
 simp only [cRw]
 simp [lf55, Va.cells, hA, qt, hE, yS, finish, zP, qT, Trw1_mu, Trw1_fns, -getElem?_pos, List.getElem?_cons_zero, List.getElem?_cons_succ]
def aY (l : List Va) : List Rw → Nat → Int
 | [], _ => -1
 | r :: t, i => if wT r.ag l = true then i else aY l t (i + 1)
def ah (es : List AVal) : Option (List Rw) := match j3 es with | some ps => j0 cRw.dec ps | none => none
theorem lW {es : List AVal} {rs : List Rw} (h : ah es = some rs) : es = (rs.map cRw.enc).map AVal.p ∧ cRw.wfL rs := by
 unfold ah at h
 cases ha : j3 es with
 | none => rw [ha] at h; cases h
 | some ps =>
  rw [ha] at h
  obtain ⟨rfl, w⟩ := cRw.edL _ _ h
  exact ⟨jG ha, w⟩
def sIxR : List AVal → zb → Option (AVal × zb)
 | [.tight [], .clo 55 [.optr _ _ 0 0]], H => some (.p (.int .i64 (-1)), H)
 | [.own k 0 n v, .clo 55 [.optr q w 0 0]], H => match H[k]? with
  | some e => if e.ver = v ∧ e.size = 7 ∧ n = e.elems.length ∧ n ≤ 1000000 then
    (match py H q w with
    | some l => (match ah e.elems with | some rs => some (.p (.int .i64 (aY l rs 0)), H) | none => none)
    | none => none)
   else none
  | none => none
 | _, _ => none
def Tir : Tab := Tab.none.own 55 eT
theorem Tir_ok : TabOk Tryz.prog base Tir := Tab.own_ok Tab.none_ok row1_ok
def lJ := eT
theorem Tir_mu (a : List AVal) (H : zb) : Tir.mu 55 a H = lJ a H := rfl
theorem ixR_ok : bq Tryz.prog base 54 sIxR := by
 refine wC zB Tir_ok ze low54 fun args H r H' hs hf hb => ?_
 unfold sIxR at hs
 split at hs
 case h_3 => cases hs
 ·rename_i q w
  cases hs
  refine ⟨by simp [lf54], rfl, hb, .p _, ?_⟩
  simp [lf54]
  simp only [lf54_B0, zr]
  refine zo (fun fr G => G = H ∧ fr 7 = .p (.int .i64 0) ∧ fr 8 = .p (.int .i64 0)) (fun _ _ => 0) ⟨rfl, by simp, by simp⟩ ?_
  rintro fr G ⟨rfl, f7, f8⟩
  simp [f7, f8, yS, finish, zP, qT]
 ·rename_i k n v q w
  cases hk : H[k]? with
  | none => rw [hk] at hs; cases hs
  | some e =>
  rw [hk] at hs
  simp only at hs
  split at hs
  case isFalse => cases hs
  rename_i hc
  obtain ⟨h1, h2, h3, h4⟩ := hc
  cases hm : py H q w with
  | none => rw [hm] at hs; cases hs
  | some l =>
  rw [hm] at hs
  simp only at hs
  cases hi : ah e.elems with
  | none => rw [hi] at hs; cases hs
  | some rs =>
  rw [hi] at hs
  cases hs
  obtain ⟨es, ev, ef, ee, et⟩ := e
  simp only at h1 h2 h3 hi
  obtain ⟨rfl, wrs⟩ := lW hi
  simp only [List.length_map] at h3
  subst h1 h2 h3
  refine ⟨by simp [lf54], rfl, hb, .p _, ?_⟩
  simp [lf54, hk]
  simp only [lf54_B0, zr]
  refine zo (fun fr G => G = H ∧ ∃ j : Nat, j ≤ rs.length ∧ fr 0 = .own k 0 rs.length ev ∧ fr 1 = .clo 55 [.optr q w 0 0] ∧ fr 7 = .p (.int .i64 rs.length) ∧ fr 8 = .p (.int .i64 j) ∧ aY l (rs.drop j) j = aY l rs 0) (fun fr _ => rs.length - zD (fr 8)) ⟨rfl, 0, by omega, by simp, by simp, by simp, by simp, by simp⟩ ?_
  rintro fr G ⟨rfl, j, hj, f0, f1, f7, f8, hix⟩
  by_cases h : j < rs.length
  ·obtain ⟨x, hx⟩ : ∃ x, rs[j]? = some x := ⟨_, List.getElem?_eq_getElem h⟩
   have hnx := zZ hx
   have hdr : rs.drop j = x :: rs.drop (j + 1) := by rw [List.drop_eq_getElem_cons h, hnx]
   rw [hdr] at hix
   simp only [aY] at hix
   have hw := zs (i := j) (by omega)
   have hcall : lJ [.p (cRw.enc x), .optr q w 0 0] G = some (.p (.bool (wT x.ag l)), G) := by simp only [lJ, eT, cRw.de x (wrs x (List.mem_of_getElem? hx)), hm]
   have hxe : cRw.enc x = .agg [.lst (x.ag.map Va.enc), .int .i64 x.v.k, .bool x.v.b, .bool x.v.x.s, .lst (x.v.x.n.map u64), .lst (x.v.x.d.map u64), .int .i64 x.v.el] := rfl
   rw [hxe] at hcall
   cases hnf : wT x.ag l with
   | true =>
    rw [hnf] at hix hcall
    simp only [if_true] at hix
    rw [← hix]
    simp [f0, f1, f7, f8, h, hk, hx, hcall, hxe, Tir_mu, yS, finish, zP, qT, j3, -getElem?_pos]
   | false =>
    rw [hnf] at hix hcall
    simp only [Bool.false_eq_true, if_false] at hix
    simp [f0, f1, f7, f8, h, hk, hx, hcall, hxe, hw, zD, Tir_mu, -getElem?_pos]
    exact ⟨⟨j + 1, by omega, rfl, hix⟩, by omega⟩
  ·have hil : j = rs.length := by omega
   subst hil
   rw [List.drop_of_length_le (Nat.le_refl _)] at hix
   rw [← hix]
   simp [f7, f8, aY, yS, finish, zP, qT]
def lV (H : zb) : AVal → Option (List Rw)
 | .tight [] => some []
 | .own k 0 n v => match H[k]? with
  | some e => if e.ver = v ∧ e.size = 7 ∧ n = e.elems.length ∧ n ≤ 1000000 then ah e.elems else none
  | none => none
 | _ => none
def sRow : List AVal → zb → Option (AVal × zb)
 | [.agg (.p nm :: rv :: rest), .p (.lst al)], H => match kR (.agg (.p nm :: rv :: rest)) with
  | some _ => (match lV H rv with
   | some rs => (match j0 cVa.dec al with
    | some l => some (.p (.int .i64 (aY l rs 0)), H)
    | none => none)
   | none => none)
  | none => none
 | _, _ => none
def Tro24 : Tab := Tab.none.own 54 sIxR
theorem Tro24_ok : TabOk Tryz.prog base Tro24 := Tab.own_ok Tab.none_ok ixR_ok
def sIxRK := sIxR
theorem Tro24_mu (a : List AVal) (H : zb) : Tro24.mu 54 a H = sIxRK a H := rfl
theorem urow_ok : bq Tryz.prog base 31 sRow := by
 refine wC zB Tro24_ok ze low31 fun args H r H' hs hf hb => ?_
 unfold sRow at hs
 split at hs
 case h_2 => cases hs
 rename_i nm rv rest al
 cases hn : kR (.agg (.p nm :: rv :: rest)) with
 | none => rw [hn] at hs; cases hs
 | some nm' =>
 rw [hn] at hs
 simp only at hs
 cases hr : lV H rv with
 | none => rw [hr] at hs; cases hs
 | some rs =>
 rw [hr] at hs
 simp only at hs
 cases ha : j0 cVa.dec al with
 | none => rw [ha] at hs; cases hs
 | some l =>
 rw [ha] at hs
 cases hs
 obtain ⟨rfl, wl⟩ := cVa.edL _ _ ha
 obtain ⟨rv', r1, r2, r3, r4, r5, r6, he, c7, c1, c2, c3, c4, c5, c6⟩ := jr hn
 cases he
 refine ⟨by simp [lf31], rfl, hb, .p _, ?_⟩
 have c0 : (AVal.p (.str nm')).isCell = true := rfl
 have c8 := (cE (nm := .str nm') c7 []).2
 have c9 : (AVal.p (.lst (l.map Va.enc))).isCell = true := rfl
 have e0 : cVa.enc = Va.enc := rfl
 rw [e0]
 have harg : ∀ (z : Ent), py (H ++ [z, ⟨1, 0, false, [.p (.lst (l.map Va.enc))], 56⟩]) (H.length + 1) 0 = some l := fun z => by
  unfold py
  rw [bd]
  simp only [List.getElem?_cons_succ, List.getElem?_cons_zero, if_true]
  exact cVa.deL l wl
 have hcall : ∀ (z : Ent), sIxRK [rv, .clo 55 [.optr (H.length + 1) 0 0 0]] (H ++ [z, ⟨1, 0, false, [.p (.lst (l.map Va.enc))], 56⟩]) = some (.p (.int .i64 (aY l rs 0)), H ++ [z, ⟨1, 0, false, [.p (.lst (l.map Va.enc))], 56⟩]) := fun z => by
  unfold lV at hr
  split at hr
  ·cases hr; rfl
  ·rename_i k n v
   cases hk : H[k]? with
   | none => rw [hk] at hr; cases hr
   | some e =>
   rw [hk] at hr
   simp only at hr
   split at hr
   case isFalse => cases hr
   rename_i hc
   have hkl := (List.getElem?_eq_some_iff.1 hk).1
   simp only [sIxRK, sIxR]
   rw [List.getElem?_append_left hkl, hk]
   simp only
   rw [if_pos hc, harg]
   simp only [hr]
  ·cases hr
 simp [lf31, -AVal.isCell, c0, c1, c2, c3, c4, c5, c6, c8, c9, qt, aO, j3, hcall, Tro24_mu, yS, finish, zP, qT, -getElem?_pos, List.getElem?_cons_zero, List.getElem?_cons_succ]
def lN : List PVal → Option PVal
 | [.str _] => some (.bool false)
 | _ => none
theorem nas_ok : zG Tryz.prog base 58 (za lN) := by
 refine zd zB Tab.none_ok ze low58 fun args z hs hf => ?_
 unfold lN at hs
 split at hs
 case h_2 => cases hs
 rename_i x
 cases hs
 have e1 : dV .neq x x = some (.bool (!(x == x))) := rfl
 exact ⟨by simp [lf58], by simp [lf58, e1]⟩
def tY (a b : List UInt8) : Int := if Op.bytesLess a b = true then -1 else if (!(Op.bytesLess a b || a == b)) = true then 1 else 0
def sCmS : List PVal → Option PVal
 | [.str a, .str b] => some (.int .i64 (tY a b))
 | _ => none
def Tcms : Tab := Tab.none.with 58 (za lN)
theorem Tcms_ok : TabOk Tryz.prog base Tcms := Tab.with_ok Tab.none_ok nas_ok
theorem o7 (f : FuncId) (a : List AVal) (H : zb) : Tcms.mu f a H = none := (rfl)
theorem tK : Tcms.fn 58 = (za lN) := (rfl)
theorem cms_ok : zG Tryz.prog base 34 (za sCmS) := by
 refine zd zB Tcms_ok ze low34 fun args z hs hf => ?_
 unfold sCmS at hs
 split at hs
 case h_2 => cases hs
 rename_i a b
 cases hs
 have e1 : dV .lss a b = some (.bool (Op.bytesLess a b)) := rfl
 have e2 : dV .gtr a b = some (.bool (!(Op.bytesLess a b || a == b))) := rfl
 refine ⟨by simp [lf34], ?_⟩
 cases h1 : Op.bytesLess a b with
 | true => simp [lf34, lN, e1, tY, h1, o7, tK]
 | false =>
  cases h2 : (a == b) with
  | true => simp [-beq_iff_eq, lf34, lN, e1, e2, tY, h1, h2, o7, tK]
  | false => simp [-beq_iff_eq, -beq_eq_false_iff_ne, lf34, lN, e1, e2, tY, h1, h2, o7, tK]
def sTb2 : List AVal → zb → Option (AVal × zb)
 | [x, y], H => match kR x with
  | some f => (match kR y with
   | some g => some (.p (.int .i64 (tY f g)), H)
   | none => none)
  | none => none
 | _, _ => none
def Ttb2 : Tab := Tab.none.with 34 (za sCmS)
theorem Ttb2_ok : TabOk Tryz.prog base Ttb2 := Tab.with_ok Tab.none_ok cms_ok
theorem Ttb2_mu (f : FuncId) (a : List AVal) (H : zb) : Ttb2.mu f a H = none := (rfl)
theorem Ttb2_fns : Ttb2.fn 34 = (za sCmS) := (rfl)
theorem tb2_ok : bq Tryz.prog base 33 sTb2 := by
 refine wC zB Ttb2_ok ze low33 fun args H r H' hs hf hb => ?_
 unfold sTb2 at hs
 split at hs
 case h_2 => cases hs
 rename_i x y
 cases hx : kR x with
 | none => rw [hx] at hs; cases hs
 | some f =>
 rw [hx] at hs
 simp only at hs
 cases hy : kR y with
 | none => rw [hy] at hs; cases hs
 | some g =>
 rw [hy] at hs
 cases hs
 obtain ⟨rv, r1, r2, r3, r4, r5, r6, rfl, c7, c1, c2, c3, c4, c5, c6⟩ := jr hx
 obtain ⟨sv, s1, s2, s3, s4, s5, s6, rfl, d7, d1, d2, d3, d4, d5, d6⟩ := jr hy
 refine ⟨by simp [lf33], rfl, hb, .p _, ?_⟩
 have c0 : (AVal.p (.str f)).isCell = true := rfl
 have c8 := (cE (nm := .str f) c7 []).2
 have d0 : (AVal.p (.str g)).isCell = true := rfl
 have d8 := (cE (nm := .str g) d7 []).2
 simp [lf33, -AVal.isCell, c0, c1, c2, c3, c4, c5, c6, c8, d0, d1, d2, d3, d4, d5, d6, d8, bd, qt, sCmS, Ttb2_mu, Ttb2_fns, yS, finish, zP, qT, -getElem?_pos, List.getElem?_cons_zero, List.getElem?_cons_succ]
def rF : List AVal → Option (List AVal)
 | [] => some []
 | [x] => some [x]
 | [x, y] => match kR x with
  | some f => (match kR y with
   | some g => if Op.bytesLess g f = true then some [y, x] else some [x, y]
   | none => none)
  | none => none
 | _ => none
def fD : List AVal → zb → Option (AVal × zb)
 | [.own k 0 n v, .p (.int .i64 0), .p (.int .i64 m), .p (.clo 33 [])], H => match H[k]? with
  | some e => if e.ver = v ∧ e.size = 8 ∧ e.froz = false ∧ n = e.elems.length ∧ m = n then
    (match rF e.elems with
    | some l => some (.p (.tup []), H.set k ⟨e.size, e.ver, e.froz, l, e.ty⟩)
    | none => none)
   else none
  | none => none
 | [.tight [], .p (.int .i64 0), .p (.int .i64 0), .p (.clo 33 [])], H => some (.p (.tup []), H)
 | _, _ => none
def Tins : Tab := Tab.none.own 33 sTb2
theorem Tins_ok : TabOk Tryz.prog base Tins := Tab.own_ok Tab.none_ok tb2_ok
def sTb2K := sTb2
theorem Tins_mu (a : List AVal) (H : zb) : Tins.mu 33 a H = sTb2K a H := rfl
theorem set_self {α : Type} {l : List α} {k : Nat} {e : α} (h : l[k]? = some e) : l.set k e = l := by
 obtain ⟨hk, h'⟩ := List.getElem?_eq_some_iff.1 h
 subst h'
 exact List.set_getElem_self hk
theorem less_cmp (a b : List UInt8) : decide (tY a b < 0) = Op.bytesLess a b := by
 unfold tY
 cases Op.bytesLess a b with
 | true => simp
 | false => simp; split <;> simp
theorem ins_ok : bq Tryz.prog base 91 fD := by
 refine mU zB Tins_ok ze low91 fun args H r H' hs hf => ?_
 unfold fD at hs
 split at hs
 case h_3 => cases hs
 case h_2 =>
  cases hs
  have w01 : IntKind.i64.wrap 1 = 1 := by decide
  refine ⟨by simp [lf91], ?_⟩
  simp [lf91, w01]
  simp only [lf91_B1, zr]
  refine zo (fun fr G => G = H ∧ fr 2 = .p (.int .i64 0) ∧ fr 8 = .p (.int .i64 1)) (fun _ _ => 0) ⟨rfl, by simp, by simp⟩ ?_
  rintro fr G ⟨rfl, f2, f8⟩
  simp [f2, f8, jI, finish, zP]
 rename_i k n v m
 cases hk : H[k]? with
 | none => rw [hk] at hs; cases hs
 | some e =>
 rw [hk] at hs
 simp only at hs
 split at hs
 case isFalse => cases hs
 rename_i hc
 obtain ⟨es, ev, ef, ee, et⟩ := e
 obtain ⟨h1, h2, h3, h4, h5⟩ := hc
 simp only at h1 h2 h3 h4 hs
 subst h1 h2 h3 h4 h5
 cases hso : rF ee with
 | none => rw [hso] at hs; cases hs
 | some l =>
 rw [hso] at hs
 cases hs
 refine ⟨by simp [lf91], ?_⟩
 have w01 : IntKind.i64.wrap 1 = 1 := by decide
 have w02 : IntKind.i64.wrap 2 = 2 := by decide
 have w00 : IntKind.i64.wrap 0 = 0 := by decide
 simp [lf91, w01]
 simp only [lf91_B1, zr]
 match ee, hso with
 | [], hso =>
  cases hso
  refine zo (fun fr G => G = H ∧ fr 2 = .p (.int .i64 0) ∧ fr 8 = .p (.int .i64 1)) (fun _ _ => 0) ⟨rfl, by simp, by simp⟩ ?_
  rintro fr G ⟨rfl, f2, f8⟩
  simp [f2, f8, jI, finish, zP, set_self hk]
 | [x], hso =>
  cases hso
  refine zo (fun fr G => G = H ∧ fr 2 = .p (.int .i64 1) ∧ fr 8 = .p (.int .i64 1)) (fun _ _ => 0) ⟨rfl, by simp, by simp⟩ ?_
  rintro fr G ⟨rfl, f2, f8⟩
  simp [f2, f8, jI, finish, zP, set_self hk]
 | [x, y], hso =>
  have hkl := (List.getElem?_eq_some_iff.1 hk).1
  simp only [rF] at hso
  cases hx : kR x with
  | none => rw [hx] at hso; cases hso
  | some f =>
  rw [hx] at hso
  simp only at hso
  cases hy : kR y with
  | none => rw [hy] at hso; cases hso
  | some g =>
  rw [hy] at hso
  simp only at hso
  have hcall : sTb2K [y, x] H = some (.p (.int .i64 (tY g f)), H) := by simp only [sTb2K, sTb2, hx, hy]
  have hlc := less_cmp g f
  obtain ⟨rv, r1, r2, r3, r4, r5, r6, rfl, c7, c1, c2, c3, c4, c5, c6⟩ := jr hx
  obtain ⟨sv, s1, s2, s3, s4, s5, s6, rfl, d7, d1, d2, d3, d4, d5, d6⟩ := jr hy
  have c0 : (AVal.p (.str f)).isCell = true := rfl
  have c8 := (cE (nm := .str f) c7 []).2
  have d0 : (AVal.p (.str g)).isCell = true := rfl
  have d8 := (cE (nm := .str g) d7 []).2
  have mx := fX (nm := .str f) c7 [r1, r2, r3, r4, r5, r6]
  have my := fX (nm := .str g) d7 [s1, s2, s3, s4, s5, s6]
  refine zo (fun fr G => fr 0 = .own k 0 2 ev ∧ fr 1 = .p (.int .i64 0) ∧ fr 2 = .p (.int .i64 2) ∧ fr 3 = .p (.clo 33 []) ∧ ((G = H ∧ fr 8 = .p (.int .i64 1)) ∨ (G = H.set k ⟨8, ev, false, l, et⟩ ∧ fr 8 = .p (.int .i64 2)))) (fun fr _ => 2 - zD (fr 8)) ⟨by simp, by simp, by simp, by simp, .inl ⟨rfl, by simp⟩⟩ ?_
  rintro fr G ⟨f0, f1, f2, f3, ⟨rfl, f8⟩ | ⟨rfl, f8⟩⟩
  ·simp [f2, f8]
   simp only [lf91_B0, zr]
   cases hb : Op.bytesLess g f with
   | false =>
    rw [hb] at hso hlc
    cases hso
    rw [set_self hk]
    have hlc' : ¬ tY g f < 0 := by simpa using hlc
    refine zo (fun fr' G' => G' = G ∧ fr' 0 = .own k 0 2 ev ∧ fr' 1 = .p (.int .i64 0) ∧ fr' 2 = .p (.int .i64 2) ∧ fr' 3 = .p (.clo 33 []) ∧ fr' 8 = .p (.int .i64 1) ∧ fr' 9 = .p (.int .i64 1)) (fun _ _ => 0) ⟨rfl, by simp [f0], by simp [f1], by simp [f2], by simp [f3], by simp [f8], by simp⟩ ?_
    rintro fr' G' ⟨rfl, g0, g1, g2, g3, g8, g9⟩
    simp [g0, g1, g2, g3, g8, g9, w00, w02, hk, hcall, hlc', mx, my, Tins_mu, zD, -getElem?_pos, List.getElem?_cons_zero, List.getElem?_cons_succ]
   | true =>
    rw [hb] at hso hlc
    cases hso
    have hlc' : tY g f < 0 := by simpa using hlc
    refine zo (fun fr' G' => fr' 0 = .own k 0 2 ev ∧ fr' 1 = .p (.int .i64 0) ∧ fr' 2 = .p (.int .i64 2) ∧ fr' 3 = .p (.clo 33 []) ∧ fr' 8 = .p (.int .i64 1) ∧ ((G' = G ∧ fr' 9 = .p (.int .i64 1)) ∨ (G' = G.set k ⟨8, ev, false, [.agg [.p (.str g), sv, s1, s2, s3, s4, s5, s6], .agg [.p (.str f), rv, r1, r2, r3, r4, r5, r6]], et⟩ ∧ fr' 9 = .p (.int .i64 0)))) (fun fr' _ => zD (fr' 9)) ⟨by simp [f0], by simp [f1], by simp [f2], by simp [f3], by simp [f8], .inl ⟨rfl, by simp⟩⟩ ?_
    rintro fr' G' ⟨g0, g1, g2, g3, g8, ⟨rfl, g9⟩ | ⟨rfl, g9⟩⟩
    ·simp [g0, g1, g3, g9, w00, hk, hcall, hlc', mx, my, Tins_mu, zD, -AVal.isCell, -getElem?_pos, List.getElem?_cons_zero, List.getElem?_cons_succ]
     rw [zu]
     refine ⟨[], ?_⟩
     simp [g0, g1, g2, g3, g8, g9, w00, hk, hkl, mx, my, -AVal.isCell, c0, c1, c2, c3, c4, c5, c6, c8, d0, d1, d2, d3, d4, d5, d6, d8, -getElem?_pos, List.getElem?_cons_zero, List.getElem?_cons_succ]
    ·simp [g0, g1, g2, g3, g8, g9, w02, zD]
  ·simp [f2, f8, jI, finish, zP]
def sPdq : List AVal → zb → Option (AVal × zb)
 | [.own k 0 n v, .p (.int .i64 0), .p (.int .i64 m), .p (.int .i64 _), .p (.clo 33 [])], H => if m ≤ 12 then fD [.own k 0 n v, .p (.int .i64 0), .p (.int .i64 m), .p (.clo 33 [])] H else none
 | [.tight [], .p (.int .i64 0), .p (.int .i64 0), .p (.int .i64 _), .p (.clo 33 [])], H => some (.p (.tup []), H)
 | _, _ => none
def Tpdq : Tab := Tab.none.own 91 fD
theorem Tpdq_ok : TabOk Tryz.prog base Tpdq := Tab.own_ok Tab.none_ok ins_ok
def sInsK := fD
theorem Tpdq_mu (a : List AVal) (H : zb) : Tpdq.mu 91 a H = sInsK a H := rfl
theorem sIns_tup {a : List AVal} {H H' : zb} {r : AVal} (h : fD a H = some (r, H')) : r = .p (.tup []) := by
 unfold fD at h
 split at h
 ·split at h
  ·split at h
   ·split at h
    ·cases h; rfl
    ·cases h
   ·cases h
  ·cases h
 ·cases h; rfl
 ·cases h
theorem pdq_ok : bq Tryz.prog base 56 sPdq := by
 refine mU zB Tpdq_ok ze low56 fun args H r H' hs hf => ?_
 have key : ∃ x m lim, args = [x, .p (.int .i64 0), .p (.int .i64 m), .p (.int .i64 lim), .p (.clo 33 [])] ∧ 0 ≤ m ∧ m ≤ 12 ∧ sInsK [x, .p (.int .i64 0), .p (.int .i64 m), .p (.clo 33 [])] H = some (r, H') := by
  unfold sPdq at hs
  split at hs
  ·rename_i k n v m lim
   split at hs
   case isFalse => cases hs
   rename_i hm
   refine ⟨_, m, lim, rfl, ?_, hm, hs⟩
   simp only [fD] at hs
   split at hs
   ·split at hs
    ·rename_i hc; omega
    ·cases hs
   ·cases hs
  ·rename_i lim
   exact ⟨_, 0, lim, rfl, by omega, by omega, hs⟩
  ·cases hs
 obtain ⟨x, m, lim, rfl, hm0, hm, hins⟩ := key
 have hr := sIns_tup hins
 subst hr
 refine ⟨by simp [lf56], ?_⟩
 have hw : IntKind.i64.wrap m = m := IntWalk.i64_in _ (by omega)
 simp [lf56]
 simp only [lf56_B0, zr]
 refine zo (fun fr G => G = H ∧ fr 0 = x ∧ fr 1 = .p (.int .i64 0) ∧ fr 2 = .p (.int .i64 m) ∧ fr 4 = .p (.clo 33 [])) (fun _ _ => 0) ⟨rfl, by simp, by simp, by simp, by simp⟩ ?_
 rintro fr G ⟨rfl, f0, f1, f2, f4⟩
 simp [f0, f1, f2, f4, hw, hm, hins, Tpdq_mu, jI, finish, zP]
def rX : List PVal → Option PVal
 | [.int .u64 x] => if 0 ≤ x ∧ x < 3 then some (.int .i64 x) else none
 | _ => none
def TlenB : Tab := Tab.none.with 100 (za uu)
theorem TlenB_ok : TabOk Tryz.prog base TlenB := Tab.with_ok Tab.none_ok gU
theorem TlenB_mu (f : FuncId) (a : List AVal) (H : zb) : TlenB.mu f a H = none := (rfl)
theorem TlenB_fns : TlenB.fn 100 = (za uu) := (rfl)
theorem lenB_ok : zG Tryz.prog base 57 (za rX) := by
 refine zd zB TlenB_ok ze low57 fun args z hs hf => ?_
 unfold rX at hs
 split at hs
 case h_2 => cases hs
 rename_i x
 split at hs
 case isFalse => cases hs
 rename_i hc
 cases hs
 refine ⟨by simp [lf57], ?_⟩
 have h3 : x = 0 ∨ x = 1 ∨ x = 2 := by omega
 have e : uu [.int .u64 x] = some (.int .i64 x) := by
  rcases h3 with rfl | rfl | rfl <;> rfl
 simp [lf57, e, TlenB_mu, TlenB_fns]
def sSrt : List AVal → zb → Option (AVal × zb)
 | [.own k 0 n v, .p (.clo 33 [])], H => match H[k]? with
  | some e => if e.ver = v ∧ e.size = 8 ∧ e.froz = false ∧ n = e.elems.length then
    (match rF e.elems with
    | some l => some (.p (.tup []), H.set k ⟨e.size, e.ver, e.froz, l, e.ty⟩)
    | none => none)
   else none
  | none => none
 | [.tight [], .p (.clo 33 [])], H => some (.p (.tup []), H)
 | _, _ => none
def sPdqK := sPdq
def Tsrt : Tab := (Tab.none.with 57 (za rX)).own 56 sPdq
theorem Tsrt_ok : TabOk Tryz.prog base Tsrt := Tab.own_ok (Tab.with_ok Tab.none_ok lenB_ok) pdq_ok
theorem Tsrt_mu (a : List AVal) (H : zb) : Tsrt.mu 56 a H = sPdqK a H := rfl
theorem iZ (a : List AVal) (H : zb) : Tsrt.mu 57 a H = none := rfl
theorem Tsrt_fn : Tsrt.fn 57 = za rX := rfl
theorem sortA_len {l m : List AVal} (h : rF l = some m) : l.length ≤ 2 ∧ m.length = l.length := by
 unfold rF at h
 split at h
 ·cases h; exact ⟨by simp, rfl⟩
 ·cases h; exact ⟨by simp, rfl⟩
 ·split at h
  ·split at h
   ·split at h <;> (cases h; exact ⟨by simp, rfl⟩)
   ·cases h
  ·cases h
 ·cases h
theorem srt_ok : bq Tryz.prog base 32 sSrt := by
 refine mU zB Tsrt_ok ze low32 fun args H r H' hs hf => ?_
 unfold sSrt at hs
 split at hs
 case h_3 => cases hs
 case h_2 =>
  cases hs
  refine ⟨by simp [lf32], ?_⟩
  have hw : IntKind.u64.wrap 0 = 0 := by decide
  have hcall : sPdqK [.tight [], .p (.int .i64 0), .p (.int .i64 0), .p (.int .i64 0), .p (.clo 33 [])] H = some (.p (.tup []), H) := rfl
  simp [lf32, hw, hcall, rX, Tsrt_mu, iZ, Tsrt_fn, jI, finish, zP]
 rename_i k n v
 cases hk : H[k]? with
 | none => rw [hk] at hs; cases hs
 | some e =>
 rw [hk] at hs
 simp only at hs
 split at hs
 case isFalse => cases hs
 rename_i hc
 obtain ⟨es, ev, ef, ee, et⟩ := e
 obtain ⟨h1, h2, h3, h4⟩ := hc
 simp only at h1 h2 h3 h4 hs
 subst h1 h2 h3 h4
 cases hso : rF ee with
 | none => rw [hso] at hs; cases hs
 | some l =>
 rw [hso] at hs
 cases hs
 have hle := sortA_len hso
 refine ⟨by simp [lf32], ?_⟩
 have hw : IntKind.u64.wrap (ee.length : Int) = ee.length := by
  have h3 : ee.length = 0 ∨ ee.length = 1 ∨ ee.length = 2 := by omega
  rcases h3 with h | h | h <;> (rw [h]; decide)
 have hcall : sPdqK [.own k 0 ee.length ev, .p (.int .i64 0), .p (.int .i64 ee.length), .p (.int .i64 ee.length), .p (.clo 33 [])] H = some (.p (.tup []), H.set k ⟨8, ev, false, l, et⟩) := by
  simp only [sPdqK, sPdq]
  rw [if_pos (by omega)]
  simp only [fD, hk, true_and, hso, if_true]
 have hL : rX [.int .u64 ee.length] = some (.int .i64 ee.length) := by
  simp only [rX]
  rw [if_pos (by omega)]
 simp [lf32, hk, hw, hcall, hL, Tsrt_mu, iZ, Tsrt_fn, jI, finish, zP]
theorem eL (m : Nat) (sz v : Nat) (fz : Bool) (L : List PVal) (t : TypeId) : wH m ⟨sz, v, fz, L.map AVal.p, t⟩ = ⟨sz, v, fz, L.map AVal.p, t⟩ := by
 simp [wH, Function.comp_def]
def fm (v : Va) : Bool := v.x.small
def aE (l : List Va) : Option PVal := if l ≠ [] ∧ l.length ≤ 1000000 ∧ l.all fm = true then some (.lst (l.map Va.enc)) else none
def Tows : Tab := (Tab.none.with 101 (vK 6 35 lR)).with 61 (za (sp1 cVa fR))
theorem Tows_ok : TabOk Tryz.prog base Tows := Tab.with_ok (Tab.with_ok Tab.none_ok cloneVa_ok) mown_ok
theorem Tows_mu (f : FuncId) (a : List AVal) (H : zb) : Tows.mu f a H = none := (rfl)
theorem i9 : Tows.fn 101 = (vK 6 35 lR) ∧ Tows.fn 61 = (za (sp1 cVa fR)) := ⟨rfl, rfl⟩
theorem owns_ok : zG Tryz.prog base 60 (za (sp1 cVa.lst aE)) := by
 refine zd zB Tows_ok ze low60 fun args z hs hf => ?_
 obtain ⟨l, wl, rfl, hz⟩ := yg hs
 unfold aE at hz
 split at hz
 case isFalse => cases hz
 rename_i hc
 obtain ⟨hne, hlen, hall⟩ := hc
 cases hz
 refine ⟨by simp [lf60], ?_⟩
 have hen : cVa.lst.enc l = .lst (l.map Va.enc) := rfl
 have hcl : vK 6 35 lR [.lst (l.map Va.enc)] = some (.own 0 0 l.length 0, [⟨6, 0, false, (l.map Va.enc).map .p, 35⟩]) := by
  have h1 : lR [.lst (l.map Va.enc)] = some (l.map Va.enc) := by
   have h2 : j0 cVa.dec (l.map Va.enc) = some l := cVa.deL l wl
   simp only [lR, h2]
   cases l with
   | nil => exact absurd rfl hne
   | cons a r =>
    simp only [List.length_cons] at hlen ⊢
    rw [if_pos (by omega)]
  simp only [vK, h1, List.length_map]
 rw [hen]
 simp [lf60, hcl, eL, Tows_mu, i9, -List.map_map]
 simp only [lf60_B0, zr]
 refine zo (fun fr G => G = [⟨6, 0, false, (l.map Va.enc).map .p, 35⟩] ∧ ∃ j : Nat, j ≤ l.length ∧ fr 3 = .own 0 0 l.length 0 ∧ fr 8 = .p (.int .i64 l.length) ∧ fr 9 = .p (.int .i64 j)) (fun fr _ => l.length - zD (fr 9)) ⟨rfl, 0, by omega, by simp, by simp, by simp⟩ ?_
 rintro fr G ⟨rfl, j, hj, f3, f8, f9⟩
 by_cases h : j < l.length
 ·obtain ⟨x, hx⟩ : ∃ x, l[j]? = some x := ⟨_, List.getElem?_eq_getElem h⟩
  have hnx := zZ hx
  have hw := zs (i := j) (by omega)
  have hxm := List.mem_of_getElem? hx
  have hsm : x.x.small = true := List.all_eq_true.1 hall x hxm
  have ho : sp1 cVa fR [x.enc] = some x.enc := (mH (A := cVa) (x := x) (wl x hxm)).trans (if_pos hsm)
  have hset : ((l.map Va.enc).map AVal.p).set j (.p x.enc) = (l.map Va.enc).map .p := by
   apply set_self
   simp [hx]
  have hget : ((l.map Va.enc).map AVal.p)[j]? = some (.p x.enc) := by simp [hx]
  have hlv : ((l.map Va.enc).map AVal.p).length = l.length := by simp
  obtain ⟨vs, hvs⟩ : ∃ t, t = (l.map Va.enc).map AVal.p := ⟨_, rfl⟩
  rw [← hvs] at hset hget hlv ⊢
  have hxe : x.enc = .agg [.int .i64 x.k, .bool x.b, .bool x.x.s, .lst (x.x.n.map u64), .lst (x.x.d.map u64), .int .i64 x.el] := rfl
  rw [hxe] at ho hset hget
  simp [f3, f8, f9, h, hw, hget, hset, ho, zD, Tows_mu, i9, -getElem?_pos, List.getElem?_cons_zero]
  exact ⟨⟨j + 1, by omega, rfl⟩, by omega⟩
 ·have hil : j = l.length := by omega
  subst hil
  have hLl : (l.map Va.enc).length = l.length := by simp
  obtain ⟨L, hL⟩ : ∃ t, t = l.map Va.enc := ⟨_, rfl⟩
  rw [← hL] at hLl ⊢
  rw [← hLl]
  simp [f3, f8, f9, ← hLl, vV, List.take_of_length_le]
def rowOk (r : Rw) : Bool := decide (r.ag ≠ []) && decide (r.ag.length ≤ 1000000) && r.ag.all fm && fm r.v
def copyP (t : Tb) : Option PVal := if t.rows ≠ [] ∧ t.rows.length ≤ 1000000 ∧ t.rows.all rowOk = true ∧ fm t.els = true then some (cTb.enc t) else none
def Tcp24 : Tab := ((Tab.none.with 59 (vK 7 58 lS)).with 60 (za (sp1 cVa.lst aE))).with 61 (za (sp1 cVa fR))
theorem Tcp24_ok : TabOk Tryz.prog base Tcp24 := Tab.with_ok (Tab.with_ok (Tab.with_ok Tab.none_ok cloneRw_ok) owns_ok) mown_ok
theorem tJ (f : FuncId) (a : List AVal) (H : zb) : Tcp24.mu f a H = none := (rfl)
theorem nA : Tcp24.fn 59 = (vK 7 58 lS) ∧ Tcp24.fn 60 = (za (sp1 cVa.lst aE)) ∧ Tcp24.fn 61 = (za (sp1 cVa fR)) := ⟨rfl, rfl, rfl⟩
theorem copy_ok : zG Tryz.prog base 35 (za (sp1 cTb copyP)) := by
 refine zd zB Tcp24_ok ze low35 fun args z hs hf => ?_
 obtain ⟨t, wt, rfl, hz⟩ := yg hs
 unfold copyP at hz
 split at hz
 case isFalse => cases hz
 rename_i hc
 obtain ⟨hne, hlen, hall, hels⟩ := hc
 cases hz
 obtain ⟨f, rows, els⟩ := t
 simp only at hne hlen hall hels
 obtain ⟨wr, we⟩ := wt
 simp only at wr we
 refine ⟨by simp [lf35], ?_⟩
 have hen : cTb.enc ⟨f, rows, els⟩ = .agg [.str f, .lst (rows.map cRw.enc), .int .i64 els.k, .bool els.b, .bool els.x.s, .lst (els.x.n.map u64), .lst (els.x.d.map u64), .int .i64 els.el] := rfl
 have hcl : vK 7 58 lS [.lst (rows.map cRw.enc)] = some (.own 0 0 rows.length 0, [⟨7, 0, false, (rows.map cRw.enc).map .p, 58⟩]) := by
  have h1 : lS [.lst (rows.map cRw.enc)] = some (rows.map cRw.enc) := by
   have h2 : j0 cRw.dec (rows.map cRw.enc) = some rows := cRw.deL rows wr
   simp only [lS, h2]
   cases rows with
   | nil => exact absurd rfl hne
   | cons a r =>
    simp only [List.length_cons] at hlen ⊢
    rw [if_pos (by omega)]
  simp only [vK, h1, List.length_map]
 have hels' : sp1 cVa fR [els.enc] = some els.enc := (mH (A := cVa) (x := els) we).trans (if_pos hels)
 have hele : els.enc = .agg [.int .i64 els.k, .bool els.b, .bool els.x.s, .lst (els.x.n.map u64), .lst (els.x.d.map u64), .int .i64 els.el] := rfl
 rw [hele] at hels'
 rw [hen]
 obtain ⟨EN, hEN⟩ : ∃ t, t = els.x.n.map u64 := ⟨_, rfl⟩
 obtain ⟨ED, hED⟩ : ∃ t, t = els.x.d.map u64 := ⟨_, rfl⟩
 rw [← hEN, ← hED] at hels' ⊢
 simp [lf35, hcl, eL, tJ, nA, -List.map_map]
 simp only [lf35_B0, zr]
 have hlR : ((rows.map cRw.enc).map AVal.p).length = rows.length := by simp
 have hgR : ∀ j x, rows[j]? = some x → ((rows.map cRw.enc).map AVal.p)[j]? = some (AVal.p (cRw.enc x)) := fun j x h => by rw [List.getElem?_map, List.getElem?_map, h]; rfl
 have hresR : ∀ (H : zb) (n : Nat), zP (zj H n) ((rows.map cRw.enc).map AVal.p) = some (rows.map cRw.enc) := fun H n => vV H n _
 obtain ⟨LR, hLR⟩ : ∃ t, t = rows.map cRw.enc := ⟨_, rfl⟩
 rw [← hLR] at hlR hgR hresR ⊢
 obtain ⟨VR, hVR⟩ : ∃ t, t = LR.map AVal.p := ⟨_, rfl⟩
 rw [← hVR] at hlR hgR hresR ⊢
 obtain ⟨ea, hea⟩ : ∃ t : Ent, t = ⟨8, 0, false, [.p (.agg [.str f, .lst LR, .int .i64 els.k, .bool els.b, .bool els.x.s, .lst EN, .lst ED, .int .i64 els.el])], 54⟩ := ⟨_, rfl⟩
 obtain ⟨eb, heb⟩ : ∃ t : Ent, t = ⟨8, 0, false, [.agg [.p (.str []), .tight [], .p (.int .i64 0), .p (.bool false), .p (.bool false), .tight [], .tight [], .p (.int .i64 0)]], 54⟩ := ⟨_, rfl⟩
 rw [← hea, ← heb]
 refine zo (fun fr G => ∃ Z, G = [ea, eb, ⟨7, 0, false, VR, 58⟩] ++ Z ∧ ∃ j : Nat, j ≤ rows.length ∧ fr 1 = .optr 0 0 0 0 ∧ fr 2 = .optr 1 0 0 0 ∧ fr 3 = .own 2 0 rows.length 0 ∧ fr 9 = .own 2 0 rows.length 0 ∧ fr 10 = .p (.int .i64 rows.length) ∧ fr 11 = .p (.int .i64 j)) (fun fr _ => rows.length - zD (fr 11)) ⟨[], rfl, 0, by omega, by simp, by simp, by simp, by simp, by simp, by simp⟩ ?_
 rintro fr G ⟨Z, hG, j, hj, f1, f2, f3, f9, f10, f11⟩
 by_cases h : j < rows.length
 ·obtain ⟨x, hx⟩ : ∃ x, rows[j]? = some x := ⟨_, List.getElem?_eq_getElem h⟩
  have hw := zs (i := j) (by omega)
  have hxm := List.mem_of_getElem? hx
  have hrk := List.all_eq_true.1 hall x hxm
  simp only [rowOk, Bool.and_eq_true, decide_eq_true_eq] at hrk
  obtain ⟨⟨⟨hr1, hr2⟩, hr3⟩, hr4⟩ := hrk
  have ho : sp1 cVa fR [x.v.enc] = some x.v.enc := (mH (A := cVa) (x := x.v) (wr x hxm).2).trans (if_pos hr4)
  have hos : sp1 cVa.lst aE [cVa.lst.enc x.ag] = some (.lst (x.ag.map Va.enc)) := (mH (A := cVa.lst) (x := x.ag) (wr x hxm).1).trans (if_pos ⟨hr1, hr2, hr3⟩)
  have hen' : cVa.lst.enc x.ag = .lst (x.ag.map Va.enc) := rfl
  have hxe : cRw.enc x = .agg [.lst (x.ag.map Va.enc), .int .i64 x.v.k, .bool x.v.b, .bool x.v.x.s, .lst (x.v.x.n.map u64), .lst (x.v.x.d.map u64), .int .i64 x.v.el] := rfl
  have hve : x.v.enc = .agg [.int .i64 x.v.k, .bool x.v.b, .bool x.v.x.s, .lst (x.v.x.n.map u64), .lst (x.v.x.d.map u64), .int .i64 x.v.el] := rfl
  have hget := hgR j x hx
  have hset := set_self hget
  rw [hxe] at hget hset
  rw [hve] at ho
  rw [hen'] at hos
  obtain ⟨XA, hXA⟩ : ∃ t, t = x.ag.map Va.enc := ⟨_, rfl⟩
  obtain ⟨XN, hXN⟩ : ∃ t, t = x.v.x.n.map u64 := ⟨_, rfl⟩
  obtain ⟨XD, hXD⟩ : ∃ t, t = x.v.x.d.map u64 := ⟨_, rfl⟩
  rw [← hXA, ← hXN, ← hXD] at hget hset
  rw [← hXN, ← hXD] at ho
  rw [← hXA] at hos
  have hA : ∀ Y, (G ++ Y)[2]? = some ⟨7, 0, false, VR, 58⟩ := fun Y => by rw [hG]; rfl
  have hA' : G[2]? = some ⟨7, 0, false, VR, 58⟩ := by rw [hG]; rfl
  have hS : ∀ Y, (G ++ Y).set 2 ⟨7, 0, false, VR, 58⟩ = G ++ Y := fun Y => set_self (hA Y)
  simp [f9, f10, f11, h, hA', hget, qt, zD, -getElem?_pos, List.getElem?_cons_zero]
  rw [zu]
  refine ⟨[], ?_⟩
  simp [f1, f2, f3, f9, f10, f11, h, hw, hA, hget, hset, hS, ho, hos, qt, tJ, nA, -getElem?_pos, List.getElem?_cons_zero]
  exact ⟨⟨⟨Z ++ _, by rw [hG]; rfl⟩, j + 1, by omega, rfl⟩, by omega⟩
 ·have hil : j = rows.length := by omega
  subst hil
  simp [f10, f11]
  rw [zu]
  refine ⟨[], ?_⟩
  rw [hG, hea, heb]
  simp [f1, f2, f3, hels', hresR, List.take_of_length_le, hlR, tJ, nA, -getElem?_pos, List.getElem?_cons_zero, List.getElem?_cons_succ]
end Go.Proofs.YtgbjjikaenlkmaaGreat

namespace Go.Proofs.YtgbjjikaenlkmaaGreat
open Go Go.Abs Go.Limbs
variable {base : Prot}
set_option maxRecDepth 20000
def flat0 : PVal → Bool
 | .bool _ => true
 | .int _ _ => true
 | .lst [] => true
 | _ => false
def flatP : PVal → Bool
 | .tup l => l.all flat0
 | x => flat0 x
theorem xR {pr pr' : Prot} {x : PVal} {v : Value} (h : flat0 x = true) (r : PRep pr x v) : PRep pr' x v := by
 cases r with
 | bool b => exact .bool b
 | int k n => exact .int k n
 | lst es a len cap size blk off vals hl hc hm ha hs hp hr hk =>
  cases es with
  | nil => exact .lst [] a len cap size blk off vals hl hc hm ha hs (fun i j hi _ => absurd hi (by simp)) (fun i e j x h1 _ => by simp at h1) hk
  | cons y r => cases h
 | flt | cpx | str | nilp | cptr | clo | nilf | nili | agg | tup => cases h
theorem flatP_any {pr pr' : Prot} {x : PVal} {v : Value} (h : flatP x = true) (r : PRep pr x v) : PRep pr' x v := by
 cases r with
 | tup l vs hl hr =>
  refine .tup l vs hl fun j x v h1 h2 => xR ?_ (hr j x v h1 h2)
  exact List.all_eq_true.1 h x (List.mem_of_getElem? h1)
 | bool b => exact .bool b
 | int k n => exact .int k n
 | lst es a len cap size blk off vals hl hc hm ha hs hp hr hk => exact xR (x := .lst es) h (.lst es a len cap size blk off vals hl hc hm ha hs hp hr hk)
 | flt | cpx | str | nilp | cptr | clo | nilf | nili | agg => cases h
theorem Inv.keep {c : Ctx} {H : zb} {w w' : World} (hI : Inv base c H w) (hs : w.heap.size ≤ w'.heap.size) (hb : ∀ b, b < w.heap.size → w'.heap[b]? = w.heap[b]?) : Inv base c H w' where
 base := hI.base
 len := hI.len
 prot := fun b o v h => by
  have h1 := hI.prot b o v h
  have hlt : b < w.heap.size := by
   rcases Nat.lt_or_ge b w.heap.size with h2 | h2
   ·exact h2
   ·have h3 : w.heap[b]? = none := by simp [h2]
    simp [World.cell?, h3] at h1
  have h4 : w'.cell? ⟨b, o, none⟩ = w.cell? ⟨b, o, none⟩ := World.cell?_of_block (a := ⟨b, o, none⟩) (hb b hlt)
  rw [h4, h1]
 ent := fun k e l h1 h2 => by
  have hE := hI.ent k e l h1 h2
  have hlt : ∀ g cap, l.place = some (g, cap) → w'.heap[g]? = w.heap[g]? := fun g cap hp => by
   apply hb
   cases hm : l.mp with
   | true =>
    obtain ⟨es, ck, h3, -⟩ := hE.mapped g cap hp hm
    exact (Array.getElem?_eq_some_iff.1 h3).1
   | false =>
    obtain ⟨cur, ty, h3, -⟩ := hE.there g cap hp hm
    exact (Array.getElem?_eq_some_iff.1 h3).1
  refine ⟨hE.ver, hE.size, hE.pos, hE.cells, hE.nowhere, fun g cap cur ty fr hp h => ?_, fun g cap hp hm => ?_, fun g cap hp hm => ?_⟩
  ·rw [hlt g cap hp] at h
   exact hE.typed g cap cur ty fr hp h
  ·have := hE.mapped g cap hp hm
   unfold MapIn at this ⊢
   rw [hlt g cap hp]
   exact this
  ·rw [hlt g cap hp]
   exact hE.there g cap hp hm
 inj := hI.inj
def flatM (F : List AVal → zb → List Nat) (s : List PVal → Option PVal) (args : List AVal) (H : zb) : Option (AVal × zb) :=
 match zP (zj H fuel) args with
 | some ps => match s ps with
  | some x => if flatP x = true then some (.p x, freezeL H (F args H)) else none
  | none => none
 | none => none
theorem flat_mu {P : Program} {f : FuncId} {s : List PVal → Option PVal} (F : List AVal → zb → List Nat) (h : zG P base f (za s)) : bq P base f (flatM F s) := by
 refine ⟨h.1, fun args H r H' hm c w vs hI hr => ?_⟩
 unfold flatM at hm
 cases hps : zP (zj H fuel) args with
 | none => rw [hps] at hm; cases hm
 | some ps =>
 rw [hps] at hm
 simp only at hm
 cases hx : s ps with
 | none => rw [hx] at hm; cases hm
 | some x =>
 rw [hx] at hm
 simp only at hm
 split at hm
 case isFalse => cases hm
 rename_i hfl
 cases hm
 obtain ⟨c1, e1, s1, i1, p1⟩ := hI.freezeL (args.flatMap (zi H fuel))
 have same := jQ (args.flatMap (zi H fuel)) H
 have hpr : ∀ (j : Nat) p v, ps[j]? = some p → vs[j]? = some v → PRep c1.prot p v := by
  intro j p v hj hv
  obtain ⟨y, a, b⟩ := vh hps j p hj
  rw [jT same] at b
  refine uy i1 fuel y v p ((hr.2 j y v a hv).step s1) b (fun k hk => ?_)
  rw [← uj same] at hk
  exact (p1 k (List.mem_flatMap.2 ⟨y, List.mem_of_getElem? a, hk⟩)).step rfl (fun _ _ _ h => h) (fun e he => kI _ H k e he)
   (fun e l g cap a b d o ho => hI.cell_at a (by rw [← e1]; exact b) d o ho)
 have hlen : vs.length = ps.length := by rw [(wK hps).1]; exact hr.1
 have i0 : Inv base ⟨[], c1.prot⟩ [] w := ⟨i1.base, rfl, i1.prot, fun k e l h => by simp at h, fun k k' l l' g cp cp' h => by simp at h⟩
 have hs : za s ps = some (.p x, []) := by unfold za; rw [hx]
 refine (h.2 ps (.p x) [] hs ⟨[], c1.prot⟩ w vs i0 (PRep.toRep hlen hpr)).mono fun e w' ⟨v, c0', he, st, hi, hrep⟩ => ?_
 have hb : ∀ b, b < w.heap.size → w'.heap[b]? = w.heap[b]? := fun b hb => st.blk b hb (by rintro ⟨k, l, cap, h1, -⟩; simp at h1)
 have iK := Inv.keep hI st.size hb
 have s0 : Step c w c w' := ⟨fun _ _ _ h => h, fun _ l h => ⟨l, h, Nat.le_refl _, fun _ => rfl⟩, st.os, st.tape, st.output, st.size, fun b hlt _ => hb b hlt, fun _ h => .inl h, fun _ _ _ h => .inl h⟩
 obtain ⟨c2, e2, s2, i2, -⟩ := iK.freezeL (F args H)
 have hv : PRep c.prot x v := by
  cases hrep with
  | p _ _ hp => exact flatP_any hfl hp
 exact ⟨v, c2, he, s0.trans s2, i2, (Rep.p x v hv).step s2⟩
def Trun : Tab := (((((((((Tab.none.with 10 (za (sp2 cMd.lst cGv.lst bk))).with 24 rR).with 20 rQ).with 30 (za (sp1 cI zerP))).with 35 (za (sp1 cTb copyP))).own 27 rP).own 28 sIxT).own 31 sRow).own 32 sSrt)
theorem Trun_ok : TabOk Tryz.prog base Trun := Tab.own_ok (Tab.own_ok (Tab.own_ok (Tab.own_ok (Tab.with_ok (Tab.with_ok (Tab.with_ok (Tab.with_ok (Tab.with_ok Tab.none_ok tM) tabG_ok) tabV_ok) mzero_ok) copy_ok) vals_ok) ixT_ok) urow_ok) srt_ok
def sTbsK (args : List PVal) : Option PVal := K.runPK Trun 5 lf12 args
theorem eD : zG Tryz.prog base 12 (za sTbsK) := K.pure_of_runK zB Trun_ok ze low12 5 fun _ _ h => h
def othersF (args : List AVal) (H : zb) : List Nat := match args with
 | [_, g] => (List.range H.length).filter fun k => !(zi H fuel g).contains k
 | _ => []
def Taw24 : Tab := (((((((Tab.none.with 19 (za uK)).with 9 (za (sp3 cVr.lst cMd cMd bW))).with 12 (za sTbsK)).with 18 (za (sp2 cI cVa.lst freeP))).with 17 (za (sp3 cPr.lst cI cI wayP))).own 12 (flatM (fun _ _ => []) sTbsK)).own 10 (flatM othersF (sp2 cMd.lst cGv.lst bk)))
theorem Taw24_ok : TabOk Tryz.prog base Taw24 := Tab.own_ok (Tab.own_ok (Tab.with_ok (Tab.with_ok (Tab.with_ok (Tab.with_ok (Tab.with_ok Tab.none_ok gI) aW) eD) free_ok) merge_ok) (flat_mu _ eD)) (flat_mu _ tM)
theorem aw24_run : eqO (K.runPK Taw24 5 lf6 []) (some (.bool true)) = true := by kernel_rfl
theorem awake24_ok : zG Tryz.prog base 6 (za gG) := by
 refine K.pure_of_runK zB Taw24_ok ze low6 5 fun args x hs => ?_
 unfold gG at hs
 split at hs
 case h_2 => cases hs
 cases hs
 exact eqO_ok aw24_run
end Go.Proofs.YtgbjjikaenlkmaaGreat

namespace Go.Proofs.YtgbjjikaenlkmaaGreat
open Go Go.Abs Go.Limbs
variable {base : Prot}
set_option maxRecDepth 20000
attribute [local irreducible] vc
attribute [local simp] za zi freezeL fuel zk u64 au
theorem rem_mod {k n : Int} (hn : 0 < n) : Int.tmod (Int.tmod k n + n) n = k % n := by
 have h1 := Int.tmod_lt_of_pos k hn
 have h2 : -n < Int.tmod k n := by
  rw [Int.tmod_eq_emod]
  have := Int.emod_nonneg k (show n ≠ 0 by omega)
  have := Int.emod_lt_of_pos k hn
  split <;> omega
 rw [Int.tmod_eq_emod_of_nonneg (by omega), Int.add_emod_right]
 rw [Int.tmod_eq_emod]
 split
 ·simp
 ·rw [Int.natAbs_of_nonneg (by omega), Int.sub_emod_right, Int.emod_emod_of_dvd _ (Int.dvd_refl n)]
def gz : List PVal → Option PVal
 | [.int .i64 k, .int .i64 n] => if 0 < n ∧ n ≤ 1000000 then some (.int .i64 (k % n)) else none
 | _ => none
theorem qx {k n : Int} (h : 0 < n) (h' : n ≤ 1000000) : gz [.int .i64 k, .int .i64 n] = some (.int .i64 (k % n)) := if_pos ⟨h, h'⟩
theorem roundN_ok : zG Tryz.prog base 7 (za gz) := by
 refine zd zB Tab.none_ok ze low7 fun args z hs hf => ?_
 unfold gz at hs
 split at hs
 case h_2 => cases hs
 rename_i k n
 split at hs
 case isFalse => cases hs
 rename_i h
 cases hs
 refine ⟨by simp [lf7], ?_⟩
 have h0 : (n == 0) = false := by simp; omega
 have h0' : n ≠ 0 := by omega
 have e1 : IntKind.i64.wrap (Int.tmod k n + n) = Int.tmod k n + n := by
  have h1 := Int.tmod_lt_of_pos k h.1
  have h2 : -n < Int.tmod k n := by
   have := Int.emod_nonneg k h0'
   have := Int.emod_lt_of_pos k h.1
   rw [Int.tmod_eq_emod]
   split <;> omega
  exact IntWalk.i64_in _ (by omega)
 have e2 := rem_mod (k := k) h.1
 simp [lf7, h0', e1, e2]
def iL (l : List Int) : List PVal := l.map fun n => PVal.int .i64 n
theorem bY (l : List Int) : (iL l).length = l.length := List.length_map ..
end Go.Proofs.YtgbjjikaenlkmaaGreat
