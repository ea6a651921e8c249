/-
  Maps filled from slices; sameness of values; what constants are by a map. No conditions beyond the lemmas' own hypotheses.
-/
import Derived.Test.YtgbjjikaenlkmaaGreatUfL
import Derived.Test.YtgbjjikaenlkmaaGreatUfA
set_option linter.unusedSimpArgs false
set_option linter.unnecessarySimpa false
set_option linter.unusedVariables false
set_option linter.constructorNameAsVariable false

/-
  uf.table: a map of what is given, filled from the last to the first.
-/
namespace Go.Proofs.YtgbjjikaenlkmaaGreat
open Go Go.Abs Go.Limbs Go.RowKit
variable {base : Prot}
set_option maxRecDepth 20000
def blkC1 : Code → Code
  | .block _ c => c
  | c => c
def rngA1 : Code → Code
  | .rangeFunc _ _ a _ => a
  | c => c
def rngB1 : Code → Code
  | .rangeFunc _ _ _ b => b
  | c => c
def opAt : Code → Nat → Oper
  | .region _ ops _, i => ops[i]!
  | _, _ => default
def zeroFits (P : Program) (ty : TypeId) (n : Nat) : Bool := (P.underlying ty).isSome && (match P.info? ty with
  | some i => (match i.zero with | some z => decide (z.cells.size = n) | none => false)
  | none => false) && decide (sizeT P ty = n)
theorem zeroFits_ok {P : Program} {ty : TypeId} {n : Nat} (h : zeroFits P ty n = true) : ∃ d i z, P.underlying ty = some d ∧ P.info? ty = some i ∧ i.zero = some z ∧ z.cells.size = n ∧ sizeT P ty = n := by
  unfold zeroFits at h
  simp only [Bool.and_eq_true, decide_eq_true_eq] at h
  obtain ⟨⟨h1, h2⟩, h3⟩ := h
  obtain ⟨d, hd⟩ := Option.isSome_iff_exists.1 h1
  cases hi : P.info? ty with
  | none => rw [hi] at h2; cases h2
  | some i =>
    rw [hi] at h2
    simp only at h2
    cases hz : i.zero with
    | none => rw [hz] at h2; cases h2
    | some z =>
      rw [hz] at h2
      exact ⟨d, i, z, hd, rfl, hz, of_decide_eq_true h2, h3⟩
theorem drop_end {c c' : Ctx} {w w' : World} {r : AVal} {v : Value} {E T : Heap} (h0 : c.locs = []) (st : Step c w c' w') (i : Inv base c' (E ++ T) w') (rp : Rep c' r v) (hb : BelowH E.length E) (hr : Below E.length r) :
    ∃ c2, Step c w c2 w' ∧ Inv base c2 E w' ∧ Rep c2 r v := by
  refine ⟨⟨c'.locs.take E.length, c'.prot⟩, ⟨st.prot, fun k l hl => ?_, st.os, st.tape, st.output, st.size, st.blk, fun b hb => ?_, st.newprot⟩, i.dropTail hb, rp.drop _ hr⟩
  · rw [h0] at hl; simp at hl
  · obtain ⟨k, l, cap, h1, h2⟩ := hb
    rw [List.getElem?_take] at h1
    split at h1
    · exact st.newloc b ⟨k, l, cap, h1, h2⟩
    · cases h1
def Gv.cells (g : Gv) : List PVal := .int .i64 g.id :: g.v.cells
section
attribute [local irreducible] vc
attribute [local simp] pureS touchV freezeL fuel shiftV
def sBkG : List PVal → Option (AVal × Heap)
  | [.lst es] => some (.clo 80 [.optr 0 0 0 0], [⟨1, 0, false, [.p (.lst es)], 30⟩])
  | _ => none
theorem bkG_ok : FnOk Tryz.prog base 47 sBkG := by
  refine ⟨goodFn_of_low low47, fun args r E hs c w vs hI hr => ?_⟩
  unfold sBkG at hs
  split at hs
  case h_2 => cases hs
  rename_i es
  cases hs
  refine (calls_of_vc hmix Tab.none_ok globNone low47 (Q := fun r H => r = .clo 80 [.optr 0 0 0 0] ∧ H = [⟨1, 0, false, [.p (.lst es)], 30⟩]) (by simp [lf47]) hI hr (fun _ => ?_)).mono fun e w' ⟨v, r2, H2, c', he, hq, st, i', rp⟩ => ?_
  · simp [lf47, retQ, mkClo, allP]
  · obtain ⟨rfl, rfl⟩ := hq
    exact ⟨v, c', he, st, i', rp⟩
end
noncomputable def bdG : Code := (Tryz.f24.body).getD .skip
noncomputable def c0G : Code := seqL bdG
noncomputable def c1G : Code := seqL (seqR bdG)
noncomputable def cRG : Code := seqL (seqL (seqR (seqR bdG)))
noncomputable def cTG : Code := seqR (seqR (seqR bdG))
noncomputable def cAG : Code := rngA1 (blkC1 (seqR (seqL (seqR (seqR bdG)))))
noncomputable def cBG : Code := rngB1 (blkC1 (seqR (seqL (seqR (seqR bdG)))))
theorem bodyG : Tryz.f24.body = some (seqs [c0G, c1G] ((cRG.seq (.block 0 (.rangeFunc (.tmp 8) #[9, 10] cAG cBG))).seq cTG)) := by kernel_rfl
def LG : LCode := lf24.body
theorem preG : [c0G, c1G].map (lowCode Tryz.prog gl0 Tryz.f24.ntmps) = [lseqL LG, lseqL (lseqR LG)] := by kernel_rfl
theorem rG : lowCode Tryz.prog gl0 Tryz.f24.ntmps cRG = lseqL (lseqL (lseqR (lseqR LG))) := by kernel_rfl
theorem tG : lowCode Tryz.prog gl0 Tryz.f24.ntmps cTG = lseqR (lseqR (lseqR LG)) := by kernel_rfl
def lBG : LCode := .block 1 (
   .region [
     ⟨(some 11), none, .load 1 false (.tmp 3)⟩,
     ⟨(some 12), none, .fadr 0 (.tmp 5)⟩,
     ⟨(some 13), none, .load 1 false (.tmp 12)⟩,
     ⟨(some 14), none, .fadr 1 (.tmp 5)⟩,
     ⟨(some 15), none, .load 6 true (.tmp 14)⟩,
     ⟨none, none, .mset (.tmp 11) (.tmp 13) (.tmp 15)⟩])
theorem bG_low : lowCode Tryz.prog gl0 Tryz.f24.ntmps cBG = lBG := by kernel_rfl
theorem bG_plain : plainCode cBG = true := by kernel_rfl
theorem resG : mapO (lowRes Tryz.prog Tryz.f24.ntmps) Tryz.f24.results.toList = some lf24.results := by kernel_rfl
noncomputable def o1G : Oper := opAt cAG 0
noncomputable def o2G : Oper := opAt cAG 1
theorem cAG_eq : cAG = .region 3 #[o1G, o2G] false := by kernel_rfl
theorem o1G_op : o1G.op = .alloc 38 ∧ o1G.dst = some 5 ∧ o1G.guard = none := ⟨by kernel_rfl, by kernel_rfl, by kernel_rfl⟩
theorem o2G_op : o2G.op = .store 38 (.tmp 5) (.tmp 10) ∧ o2G.dst = none ∧ o2G.guard = none := ⟨by kernel_rfl, by kernel_rfl, by kernel_rfl⟩
theorem zeroG : zeroFits Tryz.prog 38 7 = true := by kernel_rfl
def kvG (g : Gv) : Int × PVal := (g.id, g.v.enc)
def dfG : Gv := ⟨0, ⟨0, false, ⟨false, [], []⟩, 0⟩⟩
def zvG : List Value := [.int .i64 0, .int .i64 0, .bool false, .bool false, .slice none 0 0, .slice none 0 0, .int .i64 0]
theorem zvG_rep (pr : Prot) : ∀ (j : Nat) z, (Gv.cells dfG)[j]? = some z → ∃ v, zvG[j]? = some v ∧ PRep pr z v := by
  intro j z h
  have hl : ∀ k, PRep pr (.lst []) (.slice none 0 0) := fun k => .lst [] none 0 0 k 0 0 (fun _ _ => default) rfl (Nat.le_refl _) (by decide) (by simp) (by simp) (by simp) (by simp) (by simp)
  match j, h with
  | 0, h => simp [Gv.cells, Va.cells, cGv, dfG] at h; subst h; exact ⟨_, rfl, .int _ _⟩
  | 1, h => simp [Gv.cells, Va.cells, cGv, dfG] at h; subst h; exact ⟨_, rfl, .int _ _⟩
  | 2, h => simp [Gv.cells, Va.cells, cGv, dfG] at h; subst h; exact ⟨_, rfl, .bool _⟩
  | 3, h => simp [Gv.cells, Va.cells, cGv, dfG] at h; subst h; exact ⟨_, rfl, .bool _⟩
  | 4, h => simp [Gv.cells, Va.cells, cGv, dfG] at h; subst h; exact ⟨_, rfl, hl 0⟩
  | 5, h => simp [Gv.cells, Va.cells, cGv, dfG] at h; subst h; exact ⟨_, rfl, hl 0⟩
  | 6, h => simp [Gv.cells, Va.cells, cGv, dfG] at h; subst h; exact ⟨_, rfl, .int _ _⟩
  | j + 7, h => simp [Gv.cells, Va.cells, cGv, dfG] at h
def sTabG : List PVal → Option (AVal × Heap)
  | [.lst es] => match decL cGv.dec es with
    | some gs => if gs.length ≤ 1000000000 then some (.omap 0 0, [⟨0, 0, false, tabP (gs.map kvG), 0⟩]) else none
    | none => none
  | _ => none
def TkG : Tab := Tab.none.with 47 sBkG
theorem TkG_ok : TabOk Tryz.prog base TkG := Tab.with_ok Tab.none_ok bkG_ok
theorem TkG_fns : TkG.fn 47 = sBkG := (rfl)
theorem TkG_mu (f : FuncId) (a : List AVal) (H : Heap) : TkG.mu f a H = none := (rfl)
def H0G (gs : List Gv) (es : List PVal) (pre : List Nat) : Heap := [⟨0, 0, false, pre.foldl (fun m k => mput (kvG (gs.getD k dfG)).1 (kvG (gs.getD k dfG)).2 m) [], 0⟩, ⟨1, 0, false, [.omap 0 0], 88⟩, ⟨1, 0, true, [.p (.lst es)], 30⟩]
theorem H0G_all (gs : List Gv) : (upto (fun j => gs.length - 1 - j) gs.length).foldl (fun m k => mput (kvG (gs.getD k dfG)).1 (kvG (gs.getD k dfG)).2 m) [] = tabP (gs.map kvG) := by
  have e : upto (fun j => gs.length - 1 - j) gs.length = (List.range gs.length).reverse := by
    apply List.ext_getElem?
    intro j
    unfold upto
    by_cases hj : j < gs.length
    · simp [hj]
    · rw [List.getElem?_eq_none (by simp; omega), List.getElem?_eq_none (by simp; omega)]
  rw [e, List.foldl_reverse]
  unfold tabP
  rw [List.foldr_map]
  have e2 : gs = (List.range gs.length).map (fun k => gs.getD k dfG) := by
    apply List.ext_getElem?
    intro j
    by_cases hj : j < gs.length
    · simp [hj]
    · rw [List.getElem?_eq_none (by omega), List.getElem?_eq_none (by simp; omega)]
  conv => rhs; rw [e2]
  rw [List.foldr_map]
section
attribute [local irreducible] vc
attribute [local simp] pureS touchV freezeL fuel shiftV
theorem tabG_ok : FnOk Tryz.prog base 24 sTabG := by
  refine ⟨goodFn_of_low low24, fun args r E hs c w vs hI hr => ?_⟩
  unfold sTabG at hs
  split at hs
  case h_2 => cases hs
  rename_i es
  split at hs
  case h_2 => cases hs
  rename_i gs hg
  split at hs
  case isFalse => cases hs
  rename_i hlen
  cases hs
  obtain ⟨rfl, wgs⟩ := cGv.edL _ _ hg
  obtain ⟨es, hes⟩ : ∃ t, t = gs.map cGv.enc := ⟨_, rfl⟩
  rw [← hes] at hr
  have hel : es.length = gs.length := by rw [hes]; simp
  have hloc : c.locs = [] := List.length_eq_zero_iff.1 (by rw [hI.len]; rfl)
  have hagg : ∀ x ∈ es, x.isAgg = true ∧ x.cells.length = 7 := fun x hx => by
    rw [hes] at hx
    obtain ⟨g, _, rfl⟩ := List.mem_map.1 hx
    exact ⟨rfl, rfl⟩
  refine (calls_of_range (T := TkG) hmix TkG_ok globNone Tryz.func24 bodyG resG (args := [(.lst es : PVal)].map AVal.p) (H := []) (Q := fun r H => r = .omap 0 0 ∧ ∃ T', H = [⟨0, 0, false, tabP (gs.map kvG), 0⟩] ++ T') (by simp [Tryz.ntmps24]) hI hr
    (fun fr H => fr 3 = .optr 1 0 0 0 ∧ fr 8 = .clo 80 [.optr 2 0 0 0] ∧ H = [⟨0, 0, false, [], 0⟩, ⟨1, 0, false, [.omap 0 0], 88⟩, ⟨1, 0, false, [.p (.lst es)], 30⟩]) ?_ ?_).mono fun e w' ⟨v, r, H', c', he, hq, st, i', rp⟩ => ?_
  · rw [preG, rG]
    simp [vcs, LG, lseqL, lseqR, lf24, TkG_mu, TkG_fns, sBkG, shiftE]
  · rintro fr H c' w' a ⟨h3, h8, hH⟩ st iv sim hd
    have hsz : a.tmps.size = 17 := sim.1
    have rt := sim.2 8 (by rw [Tryz.ntmps24]; decide)
    rw [h8] at rt
    obtain ⟨v0, hv0, r0⟩ : ∃ v0, a.tmps.getD 8 undef = .func (.func 80) #[] #[v0] ∧ Rep c' (.optr 2 0 0 0) v0 := by
      generalize a.tmps.getD 8 undef = v at rt
      cases rt with
      | clo _ _ vs hl hr =>
        match vs, hl, hr with
        | [v0], _, hr => exact ⟨v0, rfl, hr 0 _ _ rfl rfl⟩
    have hk : H[2]? = some ⟨1, 0, false, [.p (.lst es)], 30⟩ := by rw [hH]; rfl
    obtain ⟨l, hl, he⟩ := iv.loc hk
    obtain ⟨hmp, g, cap, hp, rfl⟩ : l.mp = false ∧ ∃ g cap, l.place = some (g, cap) ∧ v0 = .pointer (some ⟨g, 0, none⟩) := by
      cases r0 with
      | optr _ _ _ _ l2 _ hl2 hv2 hh ho =>
        rw [hl] at hl2
        cases hl2
        obtain ⟨hm, g, cap, h1, h2⟩ := hh he.ver.symm
        exact ⟨hm, g, cap, h1, by simpa using h2⟩
    obtain ⟨cur, ty2, hh, _, _, _, hcur, _⟩ := he.there g cap hp hmp
    obtain ⟨sv, hsv, rsv⟩ := hcur 0 (.p (.lst es)) 0 (.p (.lst es)) rfl rfl
    simp only [Nat.zero_mul, Nat.zero_add] at hsv
    have hcell : w'.cell? ⟨g, 0, none⟩ = some sv := by
      unfold World.cell?
      simp [hh, hsv]
    obtain ⟨c1, e1, s1, i1, pm⟩ := iv.freeze1 2
    have hpr : c1.prot g 0 = some sv := (pm _ _ _ _ hk (by rw [e1]; exact hl) hp hmp 0 (by simp)).trans hcell
    have psv : PRep c1.prot (.lst es) sv := by
      cases rsv with
      | p _ _ h => exact h.mono s1.prot
    have hF : Abs.freeze1 H 2 = H0G gs es [] := by rw [hH]; rfl
    rw [hF] at i1
    obtain ⟨vals, hvals, hseq⟩ := bG_stops 5 g es hagg sv c1.prot (by omega) hpr psv w' (fun b o v hv => ⟨i1.prot b o v hv, i1.prot_lt hv⟩)
    have hval : ∀ k, k < es.length → ∃ us : List Value, vals k = .agg us.toArray ∧ us.length = 7 ∧ ∀ (j : Nat) z, (Gv.cells (gs.getD k dfG))[j]? = some z → ∃ v, us[j]? = some v ∧ PRep c1.prot z v := fun k hk => by
      have hg : gs[k]? = some (gs.getD k dfG) := by
        rw [List.getD_eq_getElem?_getD]
        rw [List.getElem?_eq_getElem (by omega)]
        rfl
      have hx : es[k]? = some (cGv.enc (gs.getD k dfG)) := by rw [hes, List.getElem?_map, hg]; rfl
      have := hvals k _ hx
      have he : cGv.enc (gs.getD k dfG) = .agg (Gv.cells (gs.getD k dfG)) := rfl
      rw [he] at this
      generalize vals k = vk at this
      cases this with
      | agg _ us hl hr hk =>
        refine ⟨us, rfl, hl, fun j z hz => ?_⟩
        have hj := (List.getElem?_eq_some_iff.1 hz).1
        exact ⟨us[j], by simp [hl, hj], hr j z _ hz (by simp [hl, hj])⟩
    obtain ⟨vx, hvx⟩ : ∃ vx : Nat → List Value, ∀ k, (vx k).length = 7 ∧ (∀ (j : Nat) z, (Gv.cells (gs.getD k dfG))[j]? = some z → ∃ v, (vx k)[j]? = some v ∧ PRep c1.prot z v) ∧ (k < es.length → vals k = .agg (vx k).toArray) := by
      have : ∀ k, ∃ us : List Value, us.length = 7 ∧ (∀ (j : Nat) z, (Gv.cells (gs.getD k dfG))[j]? = some z → ∃ v, us[j]? = some v ∧ PRep c1.prot z v) ∧ (k < es.length → vals k = .agg us.toArray) := fun k => by
        by_cases hk : k < es.length
        · obtain ⟨us, h1, h2, h3⟩ := hval k hk
          exact ⟨us, h2, h3, fun _ => h1⟩
        · refine ⟨zvG, rfl, ?_, fun h => absurd h hk⟩
          rw [List.getD_eq_getElem?_getD, List.getElem?_eq_none (by omega)]
          exact zvG_rep c1.prot
      exact ⟨fun k => (this k).choose, fun k => (this k).choose_spec⟩
    have eact : ∀ k : Nat, ({ tmps := ((#[9, 10] : Array Tmp).zip (#[Value.int .i64 (k : Int), .agg (vx k).toArray] : Array Value)).foldl (fun t (p, v) => t.setIfInBounds p v) a.tmps, defers := [] } : Act) = (a.put (some 9) (.int .i64 (k : Int))).put (some 10) (.agg (vx k).toArray) := fun k => by
      obtain ⟨tm, df⟩ := a
      simp only at hd
      subst hd
      simp [Act.put]
    have sim1 : Sim Tryz.f24.ntmps c1 fr a := sim.step s1
    have hz := zeroFits_ok zeroG
    obtain ⟨d, i, z, hu, hi, hzz, hzs, hsT⟩ := hz
    refine wp_mono (range_box (n := Tryz.f24.ntmps) TkG_ok (globNone (base := base)) i1 (m := 5) (lb := #[.pointer (some ⟨g, 0, none⟩)]) hv0 (enters_of Tryz.func80 (by kernel_rfl) rfl) (α := Nat) (encs := fun k => #[.int .i64 (k : Int), .agg (vx k).toArray]) (fun x => rfl)
      (hseq (fun k => k) (fun k hk => by rw [(hvx k).2.2 hk])) (p := 5) (size := 7) (ty := 38) (by omega) vx (fun k => cGv.enc (gs.getD k dfG)) (fun k => (hvx k).1) (fun k => rfl) (fun k z hz => ?_) (fun k => (hvx k).2.1)
      (fun k => put (put fr (some 9) (.p (.int .i64 (k : Int)))) (some 10) (.p (cGv.enc (gs.getD k dfG)))) (fun k => (a.put (some 9) (.int .i64 (k : Int))).put (some 10) (.agg (vx k).toArray)) (fun k => ⟨?_, by rw [put_defers, put_defers]; exact hd⟩)
      (fun l k W K hK => ?_) (H0G gs es) rfl (fun _ => rfl) (fun pre k e he => ?_) (fun pre => ?_) bG_plain (fun pre k hlt => ?_)
      (Q := fun e a2 w2 => e = .normal ∧ ∃ D fr2 H2 c2, a2.defers = [{ target := .collected D, args := #[] }] ∧ Step c1 w' c2 w2 ∧ Inv base c2 H2 w2 ∧ Sim Tryz.f24.ntmps c2 fr2 a2 ∧
          w2.heap[D]? = some (.deferred (some [])) ∧ w'.heap.size ≤ D ∧ vc TkG (lowCode Tryz.prog gl0 Tryz.f24.ntmps cTG) (retQ TkG lf24.results (fun r H => r = .omap 0 0 ∧ ∃ T', H = [⟨0, 0, false, tabP (gs.map kvG), 0⟩] ++ T')) fr2 H2) ?_) ?_
    · simp only [Gv.cells, Va.cells, cGv, dfG, PVal.cells] at hz
      simp only [List.mem_cons, List.not_mem_nil, or_false] at hz; rcases hz with rfl | rfl | rfl | rfl | rfl | rfl | rfl <;> rfl
    · refine (sim1.put (.p _ _ (.int _ _)) (some 9)).put (.p _ _ ?_) (some 10)
      obtain ⟨hl, hv, _⟩ := hvx k
      refine .agg _ _ hl (fun j z v h1 h2 => ?_) (fun z hz => ?_)
      · obtain ⟨v', h3, h4⟩ := hv j z h1
        rw [h2] at h3
        cases h3
        exact h4
      · simp only [Gv.cells, Va.cells, cGv, dfG] at hz
        simp only [List.mem_cons, List.not_mem_nil, or_false] at hz; rcases hz with rfl | rfl | rfl | rfl | rfl | rfl | rfl <;> rfl
    · show cAG.wpIn (WR l) 4 Tryz.prog _ ({ tmps := ((#[9, 10] : Array Tmp).zip (#[Value.int .i64 (k : Int), .agg (vx k).toArray] : Array Value)).foldl (fun t (p, v) => t.setIfInBounds p v) a.tmps, defers := [] } : Act) W
      rw [eact, cAG_eq]
      refine box_assign o1G_op.1 o1G_op.2.1 o1G_op.2.2 o2G_op.1 o2G_op.2.1 o2G_op.2.2 hu hi hzz (by rw [hzs, hsT]) (by rw [hsT]; exact (hvx k).1) (fun v hv => ?_) (by simp [Act.put, hsz]) (by decide) (by simp [Act.put, hsz, Array.getD]) hK
      obtain ⟨j, hj, rfl⟩ := List.getElem_of_mem hv
      have hj' : j < (Gv.cells (gs.getD k dfG)).length := by rw [(hvx k).1] at hj; exact hj
      obtain ⟨v', h1, h2⟩ := (hvx k).2.1 j _ (List.getElem?_eq_getElem hj')
      rw [List.getElem?_eq_getElem hj] at h1
      cases h1
      refine (h2.one ?_).1
      have hz := List.getElem_mem hj'
      generalize (Gv.cells (gs.getD k dfG))[j] = z at hz
      simp only [Gv.cells, Va.cells, cGv, dfG] at hz
      simp only [List.mem_cons, List.not_mem_nil, or_false] at hz; rcases hz with rfl | rfl | rfl | rfl | rfl | rfl | rfl <;> rfl
    · match k, he with
      | 0, he => simp [H0G] at he; subst he; exact ⟨_, rfl, rfl, rfl⟩
      | 1, he => simp [H0G] at he; subst he; exact ⟨_, rfl, rfl, rfl⟩
      | 2, he => simp [H0G] at he; subst he; exact ⟨_, rfl, rfl, rfl⟩
      | k + 3, he => simp [H0G] at he
    · intro e he x hx y hy
      simp only [H0G, List.mem_cons, List.not_mem_nil, or_false] at he
      rcases he with rfl | rfl | rfl
      · have : ∃ k z, x = mcell k z := by
          have hm : ∀ (pre : List Nat) (m : List AVal), (∀ x ∈ m, ∃ k z, x = mcell k z) → ∀ x ∈ pre.foldl (fun m k => mput (kvG (gs.getD k dfG)).1 (kvG (gs.getD k dfG)).2 m) m, ∃ k z, x = mcell k z := by
            intro pre
            induction pre with
            | nil => intro m hm; exact hm
            | cons a r ih => intro m hm; exact ih _ (mput_mcell _ _ m hm)
          exact hm pre [] (by simp) x hx
        obtain ⟨k, z, rfl⟩ := this
        simp only [mcell, AVal.cells, PVal.cells, List.mem_map] at hy
        obtain ⟨u, _, rfl⟩ := hy
        exact .p _
      · simp at hx
        subst hx
        simp [AVal.cells] at hy
        subst hy
        exact .omap _ _ (by simp [H0G])
      · simp at hx
        subst hx
        simp [AVal.cells] at hy
        obtain ⟨u, _, rfl⟩ := hy
        exact .p _
    · rw [bG_low]
      simp [lBG, H0G, Gv.cells, Va.cells, cGv, dfG, h3, List.foldl_append, kvG, Va.enc, Va.cells]
    · intro xs D c' w2 hS hD st2 iv2 hK
      subst hS
      refine ⟨rfl, D, fr, _, c', by simp [hd], st2, iv2, sim1.step st2, hK, hD, ?_⟩
      have hall := H0G_all gs
      rw [← hel] at hall
      rw [tG]
      simp only [H0G, hall]
      simp [LG, lseqR, lf24, h3, retQ]
    · rintro e a2 w2 ⟨rfl, D, fr2, H2, c2, h1, h2, h3, h4, h5, h6, h7⟩
      exact ⟨rfl, D, fr2, H2, c2, h1, s1.trans h2, h3, h4, h5, h6, h7⟩
  · obtain ⟨rfl, T', rfl⟩ := hq
    obtain ⟨c2, s2, i2, r2⟩ := drop_end hloc st i' rp (fun e he x hx y hy => by
      simp at he
      subst he
      obtain ⟨k, z, rfl⟩ := tabP_mcell _ x hx
      simp only [mcell, AVal.cells, PVal.cells, List.mem_map] at hy
      obtain ⟨u, _, rfl⟩ := hy
      exact .p _) (.omap _ _ (by simp))
    exact ⟨v, c2, he, s2, i2, r2⟩
end
end Go.Proofs.YtgbjjikaenlkmaaGreat

/-
  cnf.Sorts: a map of what is given, filled from the last to the first.
-/
namespace Go.Proofs.YtgbjjikaenlkmaaGreat
open Go Go.Abs Go.Limbs Go.RowKit
variable {base : Prot}
set_option maxRecDepth 20000
def Vr.cells (g : Vr) : List PVal := [.int .i64 g.id, .int .i64 g.k]
section
attribute [local irreducible] vc
attribute [local simp] pureS touchV freezeL fuel shiftV
def sBkV : List PVal → Option (AVal × Heap)
  | [.lst es] => some (.clo 67 [.optr 0 0 0 0], [⟨1, 0, false, [.p (.lst es)], 24⟩])
  | _ => none
theorem bkV_ok : FnOk Tryz.prog base 39 sBkV := by
  refine ⟨goodFn_of_low low39, fun args r E hs c w vs hI hr => ?_⟩
  unfold sBkV at hs
  split at hs
  case h_2 => cases hs
  rename_i es
  cases hs
  refine (calls_of_vc hmix Tab.none_ok globNone low39 (Q := fun r H => r = .clo 67 [.optr 0 0 0 0] ∧ H = [⟨1, 0, false, [.p (.lst es)], 24⟩]) (by simp [lf39]) hI hr (fun _ => ?_)).mono fun e w' ⟨v, r2, H2, c', he, hq, st, i', rp⟩ => ?_
  · simp [lf39, retQ, mkClo, allP]
  · obtain ⟨rfl, rfl⟩ := hq
    exact ⟨v, c', he, st, i', rp⟩
end
noncomputable def bdV : Code := (Tryz.f20.body).getD .skip
noncomputable def c0V : Code := seqL bdV
noncomputable def c1V : Code := seqL (seqR bdV)
noncomputable def cRV : Code := seqL (seqL (seqR (seqR bdV)))
noncomputable def cTV : Code := seqR (seqR (seqR bdV))
noncomputable def cAV : Code := rngA1 (blkC1 (seqR (seqL (seqR (seqR bdV)))))
noncomputable def cBV : Code := rngB1 (blkC1 (seqR (seqL (seqR (seqR bdV)))))
theorem bodyV : Tryz.f20.body = some (seqs [c0V, c1V] ((cRV.seq (.block 0 (.rangeFunc (.tmp 8) #[9, 10] cAV cBV))).seq cTV)) := by kernel_rfl
def LV : LCode := lf20.body
theorem preV : [c0V, c1V].map (lowCode Tryz.prog gl0 Tryz.f20.ntmps) = [lseqL LV, lseqL (lseqR LV)] := by kernel_rfl
theorem rV : lowCode Tryz.prog gl0 Tryz.f20.ntmps cRV = lseqL (lseqL (lseqR (lseqR LV))) := by kernel_rfl
theorem tV : lowCode Tryz.prog gl0 Tryz.f20.ntmps cTV = lseqR (lseqR (lseqR LV)) := by kernel_rfl
def lBV : LCode := .block 1 (
   .region [
     ⟨(some 11), none, .load 1 false (.tmp 3)⟩,
     ⟨(some 12), none, .fadr 0 (.tmp 5)⟩,
     ⟨(some 13), none, .load 1 false (.tmp 12)⟩,
     ⟨(some 14), none, .fadr 1 (.tmp 5)⟩,
     ⟨(some 15), none, .load 1 false (.tmp 14)⟩,
     ⟨none, none, .mset (.tmp 11) (.tmp 13) (.tmp 15)⟩])
theorem bV_low : lowCode Tryz.prog gl0 Tryz.f20.ntmps cBV = lBV := by kernel_rfl
theorem bV_plain : plainCode cBV = true := by kernel_rfl
theorem resV : mapO (lowRes Tryz.prog Tryz.f20.ntmps) Tryz.f20.results.toList = some lf20.results := by kernel_rfl
noncomputable def o1V : Oper := opAt cAV 0
noncomputable def o2V : Oper := opAt cAV 1
theorem cAV_eq : cAV = .region 3 #[o1V, o2V] false := by kernel_rfl
theorem o1V_op : o1V.op = .alloc 29 ∧ o1V.dst = some 5 ∧ o1V.guard = none := ⟨by kernel_rfl, by kernel_rfl, by kernel_rfl⟩
theorem o2V_op : o2V.op = .store 29 (.tmp 5) (.tmp 10) ∧ o2V.dst = none ∧ o2V.guard = none := ⟨by kernel_rfl, by kernel_rfl, by kernel_rfl⟩
theorem zeroV : zeroFits Tryz.prog 29 2 = true := by kernel_rfl
def kvV (g : Vr) : Int × PVal := (g.id, .int .i64 g.k)
def dfV : Vr := ⟨0, 0⟩
def zvV : List Value := [.int .i64 0, .int .i64 0]
theorem zvV_rep (pr : Prot) : ∀ (j : Nat) z, (Vr.cells dfV)[j]? = some z → ∃ v, zvV[j]? = some v ∧ PRep pr z v := by
  intro j z h
  have hl : ∀ k, PRep pr (.lst []) (.slice none 0 0) := fun k => .lst [] none 0 0 k 0 0 (fun _ _ => default) rfl (Nat.le_refl _) (by decide) (by simp) (by simp) (by simp) (by simp) (by simp)
  match j, h with
  | 0, h => simp [Vr.cells, cVr, dfV] at h; subst h; exact ⟨_, rfl, .int _ _⟩
  | 1, h => simp [Vr.cells, cVr, dfV] at h; subst h; exact ⟨_, rfl, .int _ _⟩
  | j + 2, h => simp [Vr.cells, cVr, dfV] at h
def sTabV : List PVal → Option (AVal × Heap)
  | [.lst es] => match decL cVr.dec es with
    | some gs => if gs.length ≤ 1000000000 then some (.omap 0 0, [⟨0, 0, false, tabP (gs.map kvV), 0⟩]) else none
    | none => none
  | _ => none
def TkV : Tab := Tab.none.with 39 sBkV
theorem TkV_ok : TabOk Tryz.prog base TkV := Tab.with_ok Tab.none_ok bkV_ok
theorem TkV_fns : TkV.fn 39 = sBkV := (rfl)
theorem TkV_mu (f : FuncId) (a : List AVal) (H : Heap) : TkV.mu f a H = none := (rfl)
def H0V (gs : List Vr) (es : List PVal) (pre : List Nat) : Heap := [⟨0, 0, false, pre.foldl (fun m k => mput (kvV (gs.getD k dfV)).1 (kvV (gs.getD k dfV)).2 m) [], 0⟩, ⟨1, 0, false, [.omap 0 0], 81⟩, ⟨1, 0, true, [.p (.lst es)], 24⟩]
theorem H0V_all (gs : List Vr) : (upto (fun j => gs.length - 1 - j) gs.length).foldl (fun m k => mput (kvV (gs.getD k dfV)).1 (kvV (gs.getD k dfV)).2 m) [] = tabP (gs.map kvV) := by
  have e : upto (fun j => gs.length - 1 - j) gs.length = (List.range gs.length).reverse := by
    apply List.ext_getElem?
    intro j
    unfold upto
    by_cases hj : j < gs.length
    · simp [hj]
    · rw [List.getElem?_eq_none (by simp; omega), List.getElem?_eq_none (by simp; omega)]
  rw [e, List.foldl_reverse]
  unfold tabP
  rw [List.foldr_map]
  have e2 : gs = (List.range gs.length).map (fun k => gs.getD k dfV) := by
    apply List.ext_getElem?
    intro j
    by_cases hj : j < gs.length
    · simp [hj]
    · rw [List.getElem?_eq_none (by omega), List.getElem?_eq_none (by simp; omega)]
  conv => rhs; rw [e2]
  rw [List.foldr_map]
section
attribute [local irreducible] vc
attribute [local simp] pureS touchV freezeL fuel shiftV
theorem tabV_ok : FnOk Tryz.prog base 20 sTabV := by
  refine ⟨goodFn_of_low low20, fun args r E hs c w vs hI hr => ?_⟩
  unfold sTabV at hs
  split at hs
  case h_2 => cases hs
  rename_i es
  split at hs
  case h_2 => cases hs
  rename_i gs hg
  split at hs
  case isFalse => cases hs
  rename_i hlen
  cases hs
  obtain ⟨rfl, wgs⟩ := cVr.edL _ _ hg
  obtain ⟨es, hes⟩ : ∃ t, t = gs.map cVr.enc := ⟨_, rfl⟩
  rw [← hes] at hr
  have hel : es.length = gs.length := by rw [hes]; simp
  have hloc : c.locs = [] := List.length_eq_zero_iff.1 (by rw [hI.len]; rfl)
  have hagg : ∀ x ∈ es, x.isAgg = true ∧ x.cells.length = 2 := fun x hx => by
    rw [hes] at hx
    obtain ⟨g, _, rfl⟩ := List.mem_map.1 hx
    exact ⟨rfl, rfl⟩
  refine (calls_of_range (T := TkV) hmix TkV_ok globNone Tryz.func20 bodyV resV (args := [(.lst es : PVal)].map AVal.p) (H := []) (Q := fun r H => r = .omap 0 0 ∧ ∃ T', H = [⟨0, 0, false, tabP (gs.map kvV), 0⟩] ++ T') (by simp [Tryz.ntmps20]) hI hr
    (fun fr H => fr 3 = .optr 1 0 0 0 ∧ fr 8 = .clo 67 [.optr 2 0 0 0] ∧ H = [⟨0, 0, false, [], 0⟩, ⟨1, 0, false, [.omap 0 0], 81⟩, ⟨1, 0, false, [.p (.lst es)], 24⟩]) ?_ ?_).mono fun e w' ⟨v, r, H', c', he, hq, st, i', rp⟩ => ?_
  · rw [preV, rV]
    simp [vcs, LV, lseqL, lseqR, lf20, TkV_mu, TkV_fns, sBkV, shiftE]
  · rintro fr H c' w' a ⟨h3, h8, hH⟩ st iv sim hd
    have hsz : a.tmps.size = 17 := sim.1
    have rt := sim.2 8 (by rw [Tryz.ntmps20]; decide)
    rw [h8] at rt
    obtain ⟨v0, hv0, r0⟩ : ∃ v0, a.tmps.getD 8 undef = .func (.func 67) #[] #[v0] ∧ Rep c' (.optr 2 0 0 0) v0 := by
      generalize a.tmps.getD 8 undef = v at rt
      cases rt with
      | clo _ _ vs hl hr =>
        match vs, hl, hr with
        | [v0], _, hr => exact ⟨v0, rfl, hr 0 _ _ rfl rfl⟩
    have hk : H[2]? = some ⟨1, 0, false, [.p (.lst es)], 24⟩ := by rw [hH]; rfl
    obtain ⟨l, hl, he⟩ := iv.loc hk
    obtain ⟨hmp, g, cap, hp, rfl⟩ : l.mp = false ∧ ∃ g cap, l.place = some (g, cap) ∧ v0 = .pointer (some ⟨g, 0, none⟩) := by
      cases r0 with
      | optr _ _ _ _ l2 _ hl2 hv2 hh ho =>
        rw [hl] at hl2
        cases hl2
        obtain ⟨hm, g, cap, h1, h2⟩ := hh he.ver.symm
        exact ⟨hm, g, cap, h1, by simpa using h2⟩
    obtain ⟨cur, ty2, hh, _, _, _, hcur, _⟩ := he.there g cap hp hmp
    obtain ⟨sv, hsv, rsv⟩ := hcur 0 (.p (.lst es)) 0 (.p (.lst es)) rfl rfl
    simp only [Nat.zero_mul, Nat.zero_add] at hsv
    have hcell : w'.cell? ⟨g, 0, none⟩ = some sv := by
      unfold World.cell?
      simp [hh, hsv]
    obtain ⟨c1, e1, s1, i1, pm⟩ := iv.freeze1 2
    have hpr : c1.prot g 0 = some sv := (pm _ _ _ _ hk (by rw [e1]; exact hl) hp hmp 0 (by simp)).trans hcell
    have psv : PRep c1.prot (.lst es) sv := by
      cases rsv with
      | p _ _ h => exact h.mono s1.prot
    have hF : Abs.freeze1 H 2 = H0V gs es [] := by rw [hH]; rfl
    rw [hF] at i1
    obtain ⟨vals, hvals, hseq⟩ := bV_stops 5 g es hagg sv c1.prot (by omega) hpr psv w' (fun b o v hv => ⟨i1.prot b o v hv, i1.prot_lt hv⟩)
    have hval : ∀ k, k < es.length → ∃ us : List Value, vals k = .agg us.toArray ∧ us.length = 2 ∧ ∀ (j : Nat) z, (Vr.cells (gs.getD k dfV))[j]? = some z → ∃ v, us[j]? = some v ∧ PRep c1.prot z v := fun k hk => by
      have hg : gs[k]? = some (gs.getD k dfV) := by
        rw [List.getD_eq_getElem?_getD]
        rw [List.getElem?_eq_getElem (by omega)]
        rfl
      have hx : es[k]? = some (cVr.enc (gs.getD k dfV)) := by rw [hes, List.getElem?_map, hg]; rfl
      have := hvals k _ hx
      have he : cVr.enc (gs.getD k dfV) = .agg (Vr.cells (gs.getD k dfV)) := rfl
      rw [he] at this
      generalize vals k = vk at this
      cases this with
      | agg _ us hl hr hk =>
        refine ⟨us, rfl, hl, fun j z hz => ?_⟩
        have hj := (List.getElem?_eq_some_iff.1 hz).1
        exact ⟨us[j], by simp [hl, hj], hr j z _ hz (by simp [hl, hj])⟩
    obtain ⟨vx, hvx⟩ : ∃ vx : Nat → List Value, ∀ k, (vx k).length = 2 ∧ (∀ (j : Nat) z, (Vr.cells (gs.getD k dfV))[j]? = some z → ∃ v, (vx k)[j]? = some v ∧ PRep c1.prot z v) ∧ (k < es.length → vals k = .agg (vx k).toArray) := by
      have : ∀ k, ∃ us : List Value, us.length = 2 ∧ (∀ (j : Nat) z, (Vr.cells (gs.getD k dfV))[j]? = some z → ∃ v, us[j]? = some v ∧ PRep c1.prot z v) ∧ (k < es.length → vals k = .agg us.toArray) := fun k => by
        by_cases hk : k < es.length
        · obtain ⟨us, h1, h2, h3⟩ := hval k hk
          exact ⟨us, h2, h3, fun _ => h1⟩
        · refine ⟨zvV, rfl, ?_, fun h => absurd h hk⟩
          rw [List.getD_eq_getElem?_getD, List.getElem?_eq_none (by omega)]
          exact zvV_rep c1.prot
      exact ⟨fun k => (this k).choose, fun k => (this k).choose_spec⟩
    have eact : ∀ k : Nat, ({ tmps := ((#[9, 10] : Array Tmp).zip (#[Value.int .i64 (k : Int), .agg (vx k).toArray] : Array Value)).foldl (fun t (p, v) => t.setIfInBounds p v) a.tmps, defers := [] } : Act) = (a.put (some 9) (.int .i64 (k : Int))).put (some 10) (.agg (vx k).toArray) := fun k => by
      obtain ⟨tm, df⟩ := a
      simp only at hd
      subst hd
      simp [Act.put]
    have sim1 : Sim Tryz.f20.ntmps c1 fr a := sim.step s1
    have hz := zeroFits_ok zeroV
    obtain ⟨d, i, z, hu, hi, hzz, hzs, hsT⟩ := hz
    refine wp_mono (range_box (n := Tryz.f20.ntmps) TkV_ok (globNone (base := base)) i1 (m := 5) (lb := #[.pointer (some ⟨g, 0, none⟩)]) hv0 (enters_of Tryz.func67 (by kernel_rfl) rfl) (α := Nat) (encs := fun k => #[.int .i64 (k : Int), .agg (vx k).toArray]) (fun x => rfl)
      (hseq (fun k => k) (fun k hk => by rw [(hvx k).2.2 hk])) (p := 5) (size := 2) (ty := 29) (by omega) vx (fun k => cVr.enc (gs.getD k dfV)) (fun k => (hvx k).1) (fun k => rfl) (fun k z hz => ?_) (fun k => (hvx k).2.1)
      (fun k => put (put fr (some 9) (.p (.int .i64 (k : Int)))) (some 10) (.p (cVr.enc (gs.getD k dfV)))) (fun k => (a.put (some 9) (.int .i64 (k : Int))).put (some 10) (.agg (vx k).toArray)) (fun k => ⟨?_, by rw [put_defers, put_defers]; exact hd⟩)
      (fun l k W K hK => ?_) (H0V gs es) rfl (fun _ => rfl) (fun pre k e he => ?_) (fun pre => ?_) bV_plain (fun pre k hlt => ?_)
      (Q := fun e a2 w2 => e = .normal ∧ ∃ D fr2 H2 c2, a2.defers = [{ target := .collected D, args := #[] }] ∧ Step c1 w' c2 w2 ∧ Inv base c2 H2 w2 ∧ Sim Tryz.f20.ntmps c2 fr2 a2 ∧
          w2.heap[D]? = some (.deferred (some [])) ∧ w'.heap.size ≤ D ∧ vc TkV (lowCode Tryz.prog gl0 Tryz.f20.ntmps cTV) (retQ TkV lf20.results (fun r H => r = .omap 0 0 ∧ ∃ T', H = [⟨0, 0, false, tabP (gs.map kvV), 0⟩] ++ T')) fr2 H2) ?_) ?_
    · simp only [Vr.cells, cVr, dfV, PVal.cells] at hz
      simp only [List.mem_cons, List.not_mem_nil, or_false] at hz; rcases hz with rfl | rfl <;> rfl
    · refine (sim1.put (.p _ _ (.int _ _)) (some 9)).put (.p _ _ ?_) (some 10)
      obtain ⟨hl, hv, _⟩ := hvx k
      refine .agg _ _ hl (fun j z v h1 h2 => ?_) (fun z hz => ?_)
      · obtain ⟨v', h3, h4⟩ := hv j z h1
        rw [h2] at h3
        cases h3
        exact h4
      · simp only [Vr.cells, cVr, dfV] at hz
        simp only [List.mem_cons, List.not_mem_nil, or_false] at hz; rcases hz with rfl | rfl <;> rfl
    · show cAV.wpIn (WR l) 4 Tryz.prog _ ({ tmps := ((#[9, 10] : Array Tmp).zip (#[Value.int .i64 (k : Int), .agg (vx k).toArray] : Array Value)).foldl (fun t (p, v) => t.setIfInBounds p v) a.tmps, defers := [] } : Act) W
      rw [eact, cAV_eq]
      refine box_assign o1V_op.1 o1V_op.2.1 o1V_op.2.2 o2V_op.1 o2V_op.2.1 o2V_op.2.2 hu hi hzz (by rw [hzs, hsT]) (by rw [hsT]; exact (hvx k).1) (fun v hv => ?_) (by simp [Act.put, hsz]) (by decide) (by simp [Act.put, hsz, Array.getD]) hK
      obtain ⟨j, hj, rfl⟩ := List.getElem_of_mem hv
      have hj' : j < (Vr.cells (gs.getD k dfV)).length := by rw [(hvx k).1] at hj; exact hj
      obtain ⟨v', h1, h2⟩ := (hvx k).2.1 j _ (List.getElem?_eq_getElem hj')
      rw [List.getElem?_eq_getElem hj] at h1
      cases h1
      refine (h2.one ?_).1
      have hz := List.getElem_mem hj'
      generalize (Vr.cells (gs.getD k dfV))[j] = z at hz
      simp only [Vr.cells, cVr, dfV] at hz
      simp only [List.mem_cons, List.not_mem_nil, or_false] at hz; rcases hz with rfl | rfl <;> rfl
    · match k, he with
      | 0, he => simp [H0V] at he; subst he; exact ⟨_, rfl, rfl, rfl⟩
      | 1, he => simp [H0V] at he; subst he; exact ⟨_, rfl, rfl, rfl⟩
      | 2, he => simp [H0V] at he; subst he; exact ⟨_, rfl, rfl, rfl⟩
      | k + 3, he => simp [H0V] at he
    · intro e he x hx y hy
      simp only [H0V, List.mem_cons, List.not_mem_nil, or_false] at he
      rcases he with rfl | rfl | rfl
      · have : ∃ k z, x = mcell k z := by
          have hm : ∀ (pre : List Nat) (m : List AVal), (∀ x ∈ m, ∃ k z, x = mcell k z) → ∀ x ∈ pre.foldl (fun m k => mput (kvV (gs.getD k dfV)).1 (kvV (gs.getD k dfV)).2 m) m, ∃ k z, x = mcell k z := by
            intro pre
            induction pre with
            | nil => intro m hm; exact hm
            | cons a r ih => intro m hm; exact ih _ (mput_mcell _ _ m hm)
          exact hm pre [] (by simp) x hx
        obtain ⟨k, z, rfl⟩ := this
        simp only [mcell, AVal.cells, PVal.cells, List.mem_map] at hy
        obtain ⟨u, _, rfl⟩ := hy
        exact .p _
      · simp at hx
        subst hx
        simp [AVal.cells] at hy
        subst hy
        exact .omap _ _ (by simp [H0V])
      · simp at hx
        subst hx
        simp [AVal.cells] at hy
        obtain ⟨u, _, rfl⟩ := hy
        exact .p _
    · rw [bV_low]
      simp [lBV, H0V, Vr.cells, cVr, dfV, h3, List.foldl_append, kvV, Va.enc, Va.cells]
    · intro xs D c' w2 hS hD st2 iv2 hK
      subst hS
      refine ⟨rfl, D, fr, _, c', by simp [hd], st2, iv2, sim1.step st2, hK, hD, ?_⟩
      have hall := H0V_all gs
      rw [← hel] at hall
      rw [tV]
      simp only [H0V, hall]
      simp [LV, lseqR, lf20, h3, retQ]
    · rintro e a2 w2 ⟨rfl, D, fr2, H2, c2, h1, h2, h3, h4, h5, h6, h7⟩
      exact ⟨rfl, D, fr2, H2, c2, h1, s1.trans h2, h3, h4, h5, h6, h7⟩
  · obtain ⟨rfl, T', rfl⟩ := hq
    obtain ⟨c2, s2, i2, r2⟩ := drop_end hloc st i' rp (fun e he x hx y hy => by
      simp at he
      subst he
      obtain ⟨k, z, rfl⟩ := tabP_mcell _ x hx
      simp only [mcell, AVal.cells, PVal.cells, List.mem_map] at hy
      obtain ⟨u, _, rfl⟩ := hy
      exact .p _) (.omap _ _ (by simp))
    exact ⟨v, c2, he, s2, i2, r2⟩
end
end Go.Proofs.YtgbjjikaenlkmaaGreat

/-
 uf: values that are the same, lists of them that are; constants of a map.
-/
namespace Go.Proofs.YtgbjjikaenlkmaaGreat
open Go Go.Abs Go.Limbs
variable {base : Prot}
set_option maxRecDepth 20000
attribute [local irreducible] vc
attribute [local simp] pureS touchV freezeL fuel shiftV u64 au
def sameV (a b : Va) : Bool := decide (a.k = b.k) && (if a.k = 0 then a.b == b.b else if a.k = 1 then sameF a.x b.x else decide (a.el = b.el))
def sameVP (a b : Va) : Option PVal := some (.bool (sameV a b))
theorem sameV_refl (a : Va) : sameV a a = true := by
 unfold sameV
 rw [sameF_iff]
 split
 ·simp
 ·split <;> simp
def Tsv1 : Tab := Tab.none.with 81 (pureS (f2 sameP))
theorem Tsv1_ok : TabOk Tryz.prog base Tsv1 := Tab.with_ok Tab.none_ok lalike_ok
theorem Tsv1_mu (f : FuncId) (a : List AVal) (H : Heap) : Tsv1.mu f a H = none := (rfl)
theorem Tsv1_fns : Tsv1.fn 81 = (pureS (f2 sameP)) := (rfl)
theorem samev_ok : FnOk Tryz.prog base 49 (pureS (sp2 cVa cVa sameVP)) := by
 refine pure_of_vc hmix Tsv1_ok globNone low49 fun args z hs hf => ?_
 obtain ⟨x, y, wx, wy, rfl, hz⟩ := sp2_some hs
 cases hz
 have h1 := f2_at (g := sameP) (show x.x.wf from wx) (show y.x.wf from wy)
 obtain ⟨k, b, ⟨s, n, d⟩, e⟩ := x
 obtain ⟨k', b', ⟨s', n', d'⟩, e'⟩ := y
 refine ⟨by simp [lf49], ?_⟩
 simp only [Fr.enc, sameP] at h1
 simp only [cVa, Va.enc, Va.cells, sameV]
 by_cases hk : k = k'
 ·subst hk
  by_cases k0 : k = 0
  ·subst k0
   cases b <;> cases b' <;> simp [lf49]
  ·have k0' : (k == 0) = false := by simpa using k0
   by_cases k1 : k = 1
   ·subst k1
    simp [lf49, h1, Tsv1_mu, Tsv1_fns]
   ·have k1' : (k == 1) = false := by simpa using k1
    simp [lf49, k0, k1, k0', k1', (show (e == e') = decide (e = e') from rfl)]
 ·have hk' : (k != k') = true := by simpa using hk
  simp [lf49, hk, hk']
def Tsv2 : Tab := Tab.none.with 36 (pureS (f2 sameP))
theorem Tsv2_ok : TabOk Tryz.prog base Tsv2 := Tab.with_ok Tab.none_ok rsame_ok
theorem Tsv2_mu (f : FuncId) (a : List AVal) (H : Heap) : Tsv2.mu f a H = none := (rfl)
theorem Tsv2_fns : Tsv2.fn 36 = (pureS (f2 sameP)) := (rfl)
theorem rsamev_ok : FnOk Tryz.prog base 13 (pureS (sp2 cVa cVa sameVP)) := by
 refine pure_of_vc hmix Tsv2_ok globNone low13 fun args z hs hf => ?_
 obtain ⟨x, y, wx, wy, rfl, hz⟩ := sp2_some hs
 cases hz
 have h1 := f2_at (g := sameP) (show x.x.wf from wx) (show y.x.wf from wy)
 obtain ⟨k, b, ⟨s, n, d⟩, e⟩ := x
 obtain ⟨k', b', ⟨s', n', d'⟩, e'⟩ := y
 refine ⟨by simp [lf13], ?_⟩
 simp only [Fr.enc, sameP] at h1
 simp only [cVa, Va.enc, Va.cells, sameV]
 by_cases hk : k = k'
 ·subst hk
  by_cases k0 : k = 0
  ·subst k0
   cases b <;> cases b' <;> simp [lf13]
  ·have k0' : (k == 0) = false := by simpa using k0
   by_cases k1 : k = 1
   ·subst k1
    simp [lf13, h1, Tsv2_mu, Tsv2_fns]
   ·have k1' : (k == 1) = false := by simpa using k1
    simp [lf13, k0, k1, k0', k1', (show (e == e') = decide (e = e') from rfl)]
 ·have hk' : (k != k') = true := by simpa using hk
  simp [lf13, hk, hk']
def sameVs : List Va → List Va → Bool
 | [], [] => true
 | a :: l, b :: m => sameV a b && sameVs l m
 | _, _ => false
theorem sameVs_len : ∀ {l m : List Va}, sameVs l m = true → l.length = m.length
 | [], [], _ => rfl
 | a :: l, b :: m, h => by
  simp only [sameVs, Bool.and_eq_true] at h
  simp [sameVs_len h.2]
 | [], _ :: _, h => by cases h
 | _ :: _, [], h => by cases h
theorem sameVs_iff : ∀ {l m : List Va}, l.length = m.length → (sameVs l m = true ↔ ∀ (i : Nat) a b, l[i]? = some a → m[i]? = some b → sameV a b = true)
 | [], [], _ => by simp [sameVs]
 | a :: l, b :: m, h => by
  have ih := sameVs_iff (l := l) (m := m) (by simpa using h)
  simp only [sameVs, Bool.and_eq_true, ih]
  constructor
  ·rintro ⟨h1, h2⟩ i x y hx hy
   cases i with
   | zero => simp at hx hy; subst hx; subst hy; exact h1
   | succ i => exact h2 i x y (by simpa using hx) (by simpa using hy)
  ·intro h
   exact ⟨h 0 a b rfl rfl, fun i x y hx hy => h (i + 1) x y (by simpa using hx) (by simpa using hy)⟩
 | [], _ :: _, h => by simp at h
 | _ :: _, [], h => by simp at h
def sEqV : List PVal → Option PVal
 | [.lst us, .lst vs, .clo 49 []] => match decL cVa.dec us with
  | some l => (match decL cVa.dec vs with | some m => some (.bool (sameVs l m)) | none => none)
  | none => none
 | _ => none
theorem sEqV_at {l m : List Va} (hl : cVa.wfL l) (hm : cVa.wfL m) : sEqV [.lst (l.map Va.enc), .lst (m.map Va.enc), .clo 49 []] = some (.bool (sameVs l m)) := by
 have h1 := cVa.deL l hl
 have h2 := cVa.deL m hm
 have e : cVa.enc = Va.enc := rfl
 rw [e] at h1 h2
 simp only [sEqV, h1, h2]
def Teqv : Tab := Tab.none.with 49 (pureS (sp2 cVa cVa sameVP))
theorem Teqv_ok : TabOk Tryz.prog base Teqv := Tab.with_ok Tab.none_ok samev_ok
theorem Teqv_mu (f : FuncId) (a : List AVal) (H : Heap) : Teqv.mu f a H = none := (rfl)
theorem Teqv_fns : Teqv.fn 49 = (pureS (sp2 cVa cVa sameVP)) := (rfl)
theorem eqv_ok : FnOk Tryz.prog base 48 (pureS sEqV) := by
 refine pure_of_vc hmix Teqv_ok globNone low48 fun args z hs hf => ?_
 unfold sEqV at hs
 split at hs
 case h_2 => cases hs
 rename_i us vs
 cases hl : decL cVa.dec us with
 | none => rw [hl] at hs; cases hs
 | some l =>
 rw [hl] at hs
 cases hm : decL cVa.dec vs with
 | none => rw [hm] at hs; cases hs
 | some m =>
 rw [hm] at hs
 cases hs
 obtain ⟨rfl, wl⟩ := cVa.edL _ _ hl
 obtain ⟨rfl, wm⟩ := cVa.edL _ _ hm
 have e : cVa.enc = Va.enc := rfl
 rw [e] at hf ⊢
 have hlen := (hf (.lst (l.map Va.enc)) (by simp)).lst.1
 unfold maxLen at hlen
 simp only [List.length_map] at hlen
 refine ⟨by simp [lf48], ?_⟩
 by_cases hlm : l.length = m.length
 ·have hl1 : ((l.length : Int) != m.length) = false := by simp [hlm]
  simp [lf48, hl1]
  simp only [lf48_B0, vc_block]
  refine loop_ind (fun fr H => ∃ i : Nat, i ≤ l.length ∧ fr 1 = .p (.lst (m.map Va.enc)) ∧ fr 2 = .p (.clo 49 []) ∧ fr 15 = .p (.lst (l.map Va.enc)) ∧ fr 16 = .p (.int .i64 l.length) ∧ fr 17 = .p (.int .i64 i) ∧ ∀ (j : Nat) a b, j < i → l[j]? = some a → m[j]? = some b → sameV a b = true) (fun fr _ => l.length - ivar (fr 17)) ⟨0, by omega, by simp, by simp, by simp, by simp, by simp, by simp⟩ ?_
  rintro fr H ⟨i, hi, f1', f2', f15, f16, f17, hj⟩
  by_cases h : i < l.length
  ·obtain ⟨u, hx⟩ : ∃ u, l[i]? = some u := ⟨_, List.getElem?_eq_getElem h⟩
   have him : i < m.length := by omega
   obtain ⟨v, hy⟩ : ∃ v, m[i]? = some v := ⟨_, List.getElem?_eq_getElem him⟩
   have hnx := getE hx
   have hny := getE hy
   have hc := sp2_at (g := sameVP) (wl u (List.mem_of_getElem? hx)) (wm v (List.mem_of_getElem? hy))
   simp only [e, Va.enc, Va.cells, sameVP] at hc
   have hw := wrap_succ (i := i) (by omega)
   cases he : sameV u v with
   | true =>
    rw [he] at hc
    have hj' : ∀ (j : Nat) a b, j < i + 1 → l[j]? = some a → m[j]? = some b → sameV a b = true := fun j a b hji ha hb => by
     by_cases hj0 : j = i
     ·subst hj0
      rw [hx] at ha
      rw [hy] at hb
      cases ha; cases hb
      exact he
     ·exact hj j a b (by omega) ha hb
    simp [f1', f2', f15, f16, f17, h, him, hnx, hny, Va.enc, Va.cells, hc, hw, ivar, Teqv_mu, Teqv_fns]
    exact ⟨⟨i + 1, by omega, rfl, hj'⟩, by omega⟩
   | false =>
    have hne : sameVs l m = false := by
     cases hh : sameVs l m with
     | false => rfl
     | true =>
      have := (sameVs_iff hlm).1 hh i u v hx hy
      rw [he] at this
      cases this
    rw [he] at hc
    simp [f1', f2', f15, f16, f17, h, him, hnx, hny, Va.enc, Va.cells, hc, hne, Teqv_mu, Teqv_fns]
  ·have hil : i = l.length := by omega
   subst hil
   have hxy : sameVs l m = true := (sameVs_iff hlm).2 fun i a b ha hb => hj i a b (List.getElem?_eq_some_iff.1 ha).1 ha hb
   simp [f16, f17, hxy]
 ·have hl1 : ((l.length : Int) != m.length) = true := by simp; omega
  have hne : sameVs l m = false := by
   cases hh : sameVs l m with
   | false => rfl
   | true => exact absurd (sameVs_len hh) hlm
  simp [lf48, hl1, hne]
end Go.Proofs.YtgbjjikaenlkmaaGreat

/-
 uf: what constants are by a map.
-/
namespace Go.Proofs.YtgbjjikaenlkmaaGreat
open Go Go.Abs Go.Limbs
variable {base : Prot}
set_option maxRecDepth 20000
attribute [local irreducible] vc
attribute [local simp] pureS touchV freezeL fuel shiftV u64 au
def intsA : List AVal → Option (List Int)
 | [] => some []
 | .p (.int .i64 n) :: r => match intsA r with | some l => some (n :: l) | none => none
 | _ :: _ => none
theorem intsA_some : ∀ {es : List AVal} {l : List Int}, intsA es = some l → es = l.map fun n => .p (.int .i64 n)
 | [], l, h => by cases h; rfl
 | x :: r, l, h => by
  unfold intsA at h
  split at h
  ·rename_i heq; cases heq
  ·rename_i n r' heq
   cases heq
   split at h
   ·rename_i m hm
    cases h
    rw [List.map_cons, ← intsA_some hm]
   ·cases h
  ·cases h
theorem intsA_map : ∀ l : List Int, intsA (l.map fun n => .p (.int .i64 n)) = some l
 | [] => rfl
 | n :: r => by simp [intsA, intsA_map r]
def lookL (es : List AVal) : List Int → Option (List Va)
 | [] => some []
 | n :: r => match mfind n es with
  | some y => (match cVa.dec y with
   | some v => (match lookL es r with | some l => some (v :: l) | none => none)
   | none => none)
  | none => none
theorem lookL_get {es : List AVal} : ∀ {ids : List Int} {vs : List Va}, lookL es ids = some vs → vs.length = ids.length ∧ cVa.wfL vs ∧ ∀ (i : Nat) n v, ids[i]? = some n → vs[i]? = some v → mfind n es = some v.enc
 | [], vs, h => by
  cases h
  exact ⟨rfl, (by intro x hx; cases hx), by simp⟩
 | n :: r, vs, h => by
  unfold lookL at h
  split at h
  ·rename_i y hy
   split at h
   ·rename_i v hv
    split at h
    ·rename_i l hl
     cases h
     obtain ⟨h1, h2, h3⟩ := lookL_get hl
     obtain ⟨rfl, wv⟩ := cVa.ed _ _ hv
     refine ⟨by simp [h1], ?_, ?_⟩
     ·intro x hx
      rcases List.mem_cons.1 hx with rfl | hx
      ·exact wv
      ·exact h2 x hx
     ·intro i m u hm hu
      cases i with
      | zero => simp at hm hu; subst hm; subst hu; exact hy
      | succ i => exact h3 i m u (by simpa using hm) (by simpa using hu)
    ·cases h
   ·cases h
  ·cases h
def sVals : List AVal → Heap → Option (AVal × Heap)
 | [.omap j ver, .own k 0 n v], H => match H[j]? with
  | some e => (match H[k]? with
   | some f => if e.ver = ver ∧ f.ver = v ∧ f.size = 1 ∧ n = f.elems.length ∧ n ≤ 1000000 ∧ 0 < n then
     (match intsA f.elems with
     | some ids => (match lookL e.elems ids with
      | some vs => some (.p (.tup [.lst (vs.map Va.enc), .bool true]), H)
      | none => none)
     | none => none)
    else none
   | none => none)
  | none => none
 | _, _ => none
theorem vals_ok : MuOk Tryz.prog base 27 sVals := by
 refine own_of_vcR hmix Tab.none_ok globNone low27 fun args H r H' hs hf hb => ?_
 unfold sVals at hs
 split at hs
 case h_2 => cases hs
 rename_i j ver k n v
 cases hj : H[j]? with
 | none => rw [hj] at hs; cases hs
 | some e =>
 rw [hj] at hs
 simp only at hs
 cases hk : H[k]? with
 | none => rw [hk] at hs; cases hs
 | some f =>
 rw [hk] at hs
 simp only at hs
 split at hs
 case isFalse => cases hs
 rename_i hc
 cases hi : intsA f.elems with
 | none => rw [hi] at hs; cases hs
 | some ids =>
 rw [hi] at hs
 simp only at hs
 cases hl : lookL e.elems ids with
 | none => rw [hl] at hs; cases hs
 | some vs =>
 rw [hl] at hs
 cases hs
 obtain ⟨h1, h2, h3, h4, h5, h6⟩ := hc
 have hfe := intsA_some hi
 obtain ⟨l1, l2, l3⟩ := lookL_get hl
 obtain ⟨fs, fv, ff, fe, ft⟩ := f
 simp only at h2 h3 h4 hfe
 subst h2 h3 hfe h1
 simp only [List.length_map] at h4
 subst h4
 refine ⟨by simp [lf27], rfl, hb, _, rfl, ?_⟩
 have hkl := (List.getElem?_eq_some_iff.1 hk).1
 have hjl := (List.getElem?_eq_some_iff.1 hj).1
 simp [lf27, hk]
 simp only [lf27_B0, vc_block]
 refine loop_ind (fun fr G => ∃ i : Nat, i ≤ ids.length ∧ (∃ E, G = H ++ E) ∧ fr 0 = .omap j e.ver ∧ fr 10 = .own k 0 ids.length fv ∧ fr 11 = .p (.int .i64 ids.length) ∧ fr 12 = .p (.int .i64 i) ∧
  ((i = 0 ∧ fr 4 = .tight []) ∨ (0 < i ∧ ∃ m w, H.length ≤ m ∧ fr 4 = .own m 0 i w ∧ G[m]? = some ⟨6, w, false, (vs.take i).map (fun v => .p v.enc), 35⟩))) (fun fr _ => ids.length - ivar (fr 12)) ⟨0, by omega, ⟨[], by simp⟩, by simp, by simp, by simp, by simp, .inl ⟨rfl, by simp⟩⟩ ?_
 rintro fr G ⟨i, hi', ⟨E, hE⟩, f0, f10, f11, f12, f4⟩
 have hGj : G[j]? = some e := by rw [hE, List.getElem?_append_left hjl]; exact hj
 have hGk : G[k]? = some ⟨1, fv, ff, ids.map (fun n => .p (.int .i64 n)), ft⟩ := by rw [hE, List.getElem?_append_left hkl]; exact hk
 have hjG : j < G.length := (List.getElem?_eq_some_iff.1 hGj).1
 have hkG : k < G.length := (List.getElem?_eq_some_iff.1 hGk).1
 by_cases h : i < ids.length
 ·obtain ⟨u, hx⟩ : ∃ u, ids[i]? = some u := ⟨_, List.getElem?_eq_getElem h⟩
  obtain ⟨y, hy⟩ : ∃ y, vs[i]? = some y := ⟨_, List.getElem?_eq_getElem (by omega)⟩
  have hnx := getE hx
  have hmf := l3 i u y hx hy
  have hw := wrap_succ (i := i) (by omega)
  have hA : ∀ X, (G ++ X)[j]? = some e := fun X => by rw [List.getElem?_append_left hjG]; exact hGj
  have hC : ∀ x y : Ent, (G ++ [x]).set G.length y = G ++ [y] := fun x y => by rw [List.set_append_right _ _ (Nat.le_refl _)]; simp
  have hD : ∀ (y : Ent) r, (G ++ y :: r)[G.length]? = some y := fun y r => by simp
  have hE' : ∀ (y z : Ent) r, (G ++ y :: z :: r)[G.length + 1]? = some z := fun y z r => by rw [List.getElem?_append_right (by omega)]; simp
  have ht : (vs.take (i + 1)).map (fun v => (AVal.p v.enc)) = (vs.take i).map (fun v => .p v.enc) ++ [.p y.enc] := by rw [List.take_add_one, hy]; simp
  obtain ⟨ky, by', ⟨sy, ny, dy⟩, ey⟩ := y
  simp only [Va.enc, Va.cells] at hmf
  have hye : (AVal.p (Va.enc ⟨ky, by', ⟨sy, ny, dy⟩, ey⟩)) = .p (.agg [.int .i64 ky, .bool by', .bool sy, .lst (ny.map u64), .lst (dy.map u64), .int .i64 ey]) := rfl
  rw [hye] at ht
  obtain ⟨xs, hxs⟩ : ∃ t, t = ny.map u64 := ⟨_, rfl⟩
  obtain ⟨ys, hys⟩ : ∃ t, t = dy.map u64 := ⟨_, rfl⟩
  rw [← hxs, ← hys] at hmf ht
  have hmx : maxLen = 9223372036854775807 := rfl
  have hb1 : 1 ≤ maxLen := by omega
  obtain ⟨nn, hnn⟩ : ∃ nn, nn = ids.length := ⟨_, rfl⟩
  rw [← hnn] at h h5 h6 l1 hi' f10 f11 ⊢
  rcases f4 with ⟨rfl, f4⟩ | ⟨hi0, m, w, hm, f4, hGm⟩
  ·simp only [Nat.zero_add] at ht hw
   have hw1 : IntKind.i64.wrap 1 = 1 := IntWalk.i64_in _ (by omega)
   have hlG : H.length ≤ G.length + 2 := by rw [hE, List.length_append]; omega
   simp [f0, f10, f11, f12, f4, h, hGj, hGk, hx, hnx, hmf, hw, hA, hC, hD, hE', fillS, hb1, ivar, hw1]
   refine ⟨⟨1, by omega, ⟨E ++ [_, _, _], by rw [hE, List.append_assoc]⟩, rfl, by omega, _, hlG, _, ⟨rfl, rfl, rfl⟩, ?_⟩, by omega⟩
   rw [List.getElem?_append_right (by omega)]
   simp
   rw [← List.map_take, ht]
   rfl
  ·obtain ⟨L, hL⟩ : ∃ L, L = (vs.take i).map (fun v => (AVal.p v.enc)) := ⟨_, rfl⟩
   have hLl : L.length = i := by rw [hL]; simp; omega
   rw [← hL] at hGm ht
   have hmG : m < G.length := (List.getElem?_eq_some_iff.1 hGm).1
   have hM : ∀ X, (G ++ X)[m]? = some ⟨6, w, false, L, 35⟩ := fun X => by rw [List.getElem?_append_left hmG]; exact hGm
   have hb2 : (i + 1) * 80 ≤ 140737488355328 := by omega
   have hb3 : i + 1 ≤ maxLen := by omega
   simp [f0, f10, f11, f12, f4, h, hGj, hGk, hx, hnx, hmf, hw, hA, hC, hD, hE', fillS, hM, hLl, hb2, hb3, ivar]
   refine ⟨⟨i + 1, by omega, ⟨_, by rw [hE, List.append_assoc, List.set_append_right _ _ hm]⟩, rfl, by omega, m, hm, _, ⟨rfl, rfl, rfl⟩, ?_⟩, by omega⟩
   rw [List.getElem?_set_self (by simp; omega), ← List.map_take, ht]
 ·have hil : i = ids.length := by omega
  subst hil
  rcases f4 with ⟨h0, f4⟩ | ⟨hi0, m, w, hm, f4, hGm⟩
  ·omega
  ·have hvt : vs.take ids.length = vs := List.take_of_length_le (by omega)
   rw [hvt] at hGm
   have hres : ∀ (n : Nat) (l : List Va), mapO (resolveV G n) (l.map fun v => (AVal.p v.enc)) = some (l.map Va.enc) := fun n l => by
    induction l with
    | nil => rfl
    | cons a r ih => simp [mapO, ih, resolveV]
   have htch : ∀ (n : Nat) (l : List Va), (l.map fun v => (AVal.p v.enc)).flatMap (touchV G n) = [] := fun n l => by
    induction l with
    | nil => rfl
    | cons a r ih => rw [List.map_cons, List.flatMap_cons, ih]; cases n <;> simp [touchV]
   simp [f11, f12, f4]
   refine ⟨.tup [.own m 0 ids.length w, .p (.bool true)], E, ?_, hE, ?_, ?_⟩
   ·simp [finish, mapO, resOne, allP]
   ·simp [resolveV, mapO, hGm, l1, hres, List.take_of_length_le]
   ·simp [touchV, hGm, htch, hm, List.take_of_length_le, l1]
end Go.Proofs.YtgbjjikaenlkmaaGreat
