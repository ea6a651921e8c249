/-
  A library of the prover's own, part 4: a range over a function. No conditions.
-/
import Derived.Test.YtgdpephlpdonnaaGreatDoorAbsThree
import Derived.RangeFuncNested
import Derived.RangeFuncBound
import Derived.RangeFuncCalls
import Derived.RangeFuncLeaves
import Derived.TacticsIn
import Derived.RangeFuncBox
set_option linter.unusedSimpArgs false
set_option linter.unusedVariables false
set_option linter.constructorNameAsVariable false

/-
  ABS, part RF: a range over a function: its rounds, carried out as code of pure values and own arrays.
-/
namespace Go.Abs
open Go.RowKit
variable {P : Program} {base : Prot}
/-! ### What a step on blocks that are no cells leaves -/
theorem Inv.other {c : Ctx} {H : Heap} {w w' : World} {row : Option Nat} (hI : Inv base c H w) (hg : w.grownBy w' row) (hr : ∀ r, row = some r → ∃ o : Obj, w.heap[r]? = some o ∧ o.isCells = false) : Inv base c H w' := by
  have same : ∀ b, b < w.heap.size → (∀ cur ty fr, w.heap[b]? = some (.cells cur ty fr) → w'.heap[b]? = w.heap[b]?) := fun b hb cur ty fr hc => by
    refine hg.block b hb (fun e => ?_)
    obtain ⟨o, h1, h2⟩ := hr b e.symm
    rw [hc] at h1
    cases h1
    simp [Obj.isCells] at h2
  refine ⟨hI.base, hI.len, fun b o v hv => ?_, fun k e l h1 h2 => ?_, hI.inj⟩
  · have h1 := hI.prot b o v hv
    have hb := hI.prot_lt hv
    have : ∃ cur ty fr, w.heap[b]? = some (.cells cur ty fr) := by
      unfold World.cell? at h1
      simp only at h1
      cases ho : w.heap[b]? with
      | none => rw [ho] at h1; simp at h1
      | some ob =>
        rw [ho] at h1
        cases ob with
        | cells cur ty fr => exact ⟨_, _, _, rfl⟩
        | _ => simp at h1
    obtain ⟨cur, ty, fr, hc⟩ := this
    rw [cell_of_heap (same b hb cur ty fr hc)]
    exact h1
  · have ok := hI.ent k e l h1 h2
    have hb : ∀ g cap, l.place = some (g, cap) → w'.heap[g]? = w.heap[g]? := fun g cap hp => by
      obtain ⟨cur, ty, hh, _⟩ := ok.there g cap hp
      exact same g (hI.loced_lt ⟨k, l, cap, h2, hp⟩) _ _ _ hh
    exact ⟨ok.ver, ok.size, ok.pos, ok.cells, ok.nowhere, fun g cap cur ty fr hl hh => ok.typed g cap cur ty fr hl ((hb g cap hl).symm.trans hh), fun g cap hl => by
      obtain ⟨cur, ty, a1, a2⟩ := ok.there g cap hl
      exact ⟨cur, ty, (hb g cap hl).trans a1, a2⟩⟩
theorem Step.other {c c' : Ctx} {w0 w w' : World} {row : Option Nat} (h : Step c w0 c' w) (hg : w.grownBy w' row) (hr : ∀ r, row = some r → w0.heap.size ≤ r) : Step c w0 c' w' :=
  ⟨h.prot, h.locs, hg.os.trans h.os, hg.tape.trans h.tape, hg.output.trans h.output, Nat.le_trans h.size hg.size,
    fun b hb hn => (hg.block b (Nat.lt_of_lt_of_le hb h.size) (fun e => by have := hr b e.symm; omega)).trans (h.blk b hb hn), h.newloc, h.newprot⟩
/-- Blocks that are no cells are no own arrays. -/
theorem Step.others {c c' : Ctx} {H : Heap} {w w' : World} (h : Step c w c' w') (hI : Inv base c H w) : KeepsOthers w w' :=
  ⟨h.size, fun k o hk ho => by
    have hlt := (Array.getElem?_eq_some_iff.1 hk).1
    rw [h.blk k hlt (fun ⟨j, l, cap, h1, h2⟩ => ?_)]
    · exact hk
    · obtain ⟨e, _, ok⟩ := hI.entOf h1
      obtain ⟨cur, ty, hh, _⟩ := ok.there k cap h2
      rw [hk] at hh
      cases hh
      simp [Obj.isCells] at ho⟩
/-! ### A round's operations are carried out as anywhere -/
abbrev WR (l : Nat) : Fence := Fence.wide.inRound l
theorem upon_in {l n : Nat} {o : Oper} {a : Act} {next next' : Act → World → Prop} {Q : Exit → Act → World → Prop} (hn : ∀ a w, next a w → next' a w) {r : Result Next} (h : o.upon P a next Q r) : o.uponIn (WR l) n P a next' Q r := by
  match r, h with
  | .ok (.value v) w, h => exact hn _ _ h
  | .ok .skip w, h => exact hn _ _ h
  | .ok (.defer d) w, h => exact hn _ _ h
  | .ok (.enter f args) w, h =>
    refine ⟨fun h => by simp [Fence.wide] at h, CallsIn.inRound l ((callsIn_wide.2 h).mono ?_)⟩
    intro e w' hq
    cases e with
    | returned v => exact hn _ _ hq
    | panicked ch => exact hq
    | outgrown => exact hq
  | .ok (.row row args) w, h =>
    refine ⟨fun h => by simp [Fence.wide] at h, fun c cs _ => ?_⟩
    obtain ⟨v, w', hq, hs⟩ := h c cs
    exact ⟨v, w', hn _ _ hq, (stepsIn_wide (P := P)).2 hs⟩
  | .halt (.panic v) w, h => exact h
theorem wpOps_in {l0 n : Nat} {ops : Array Oper} {Q : Exit → Act → World → Prop} (hd : ∀ (i : Nat) o, ops[i]? = some o → ∀ c, o.op ≠ .defer c) (hQ : ¬ LetsOut Q) : ∀ (l : List Nat) (a : Act) (w : World), wpOps P ops Q l a w → wpOpsIn (WR l0) n P ops Q l a w
  | [], _, _, h => h
  | i :: rest, a, w, h => by
    unfold wpOps at h
    unfold wpOpsIn
    cases ho : ops[i]? with
    | none => rw [ho] at h; exact wpOps_in hd hQ rest a w h
    | some o =>
      rw [ho] at h
      simp only at h ⊢
      split
      · rename_i hw
        rw [if_pos hw] at h
        rcases h with h | ⟨_, h⟩
        · refine ⟨fun _ _ => trivial, ?_⟩
          rw [show (WR l0).round = some l0 from rfl, Oper.semAt_some _ _ _ (hd i o ho)]
          exact upon_in (fun a w hh => wpOps_in hd hQ rest a w hh) h
        · exact absurd h hQ
      · rename_i hw
        rw [if_neg hw] at h
        exact ⟨fun _ _ => trivial, wpOps_in hd hQ rest _ w h⟩
/-- Code that a round may be made of here: straight code without deferred calls. -/
def plainCode : Code → Bool
  | .skip => true
  | .region _ ops draw => !draw && ops.toList.all (fun o => match o.op with | .defer _ => false | _ => true)
  | .seq a b => plainCode a && plainCode b
  | .cond _ a b => plainCode a && plainCode b
  | .block _ b => plainCode b
  | .exit _ => true
  | _ => false
section
variable {gl : Nat → AVal} {n : Nat}
theorem LQ_noOut {ds : List Deferred} {c : Ctx} {w : World} {Q : LExit → AFr → Heap → Prop} : ¬ LetsOut (LQ base ds n c w Q) := by
  rintro ⟨a, w', h⟩
  obtain ⟨le, fr', H', c', q, he, _⟩ := h
  cases le <;> simp [exitOf] at he
theorem code_round {l0 m : Nat} {ds : List Deferred} {T : Tab} (hT : TabOk P base T) (hg : GlobOk base gl) : ∀ (code : Code) (Q : LExit → AFr → Heap → Prop) (c : Ctx) (H : Heap) (w : World) (fr : AFr) (a : Act), plainCode code = true →
    Inv base c H w → Sim n c fr a → a.defers = ds → vc T (lowCode P gl n code) Q fr H → code.wpIn (WR l0) m P (LQ base ds n c w Q) a w
  | .skip, Q, c, H, w, fr, a, _, hI, hs, hd, h => wpIn_skip ⟨.normal, fr, H, c, h, rfl, .refl _ _, hI, hs, hd⟩
  | .region id ops draw, Q, c, H, w, fr, a, hp, hI, hs, hd, h => by
    simp only [plainCode, Bool.and_eq_true, Bool.not_eq_true'] at hp
    obtain ⟨hdr, hp⟩ := hp
    subst hdr
    simp only [lowCode, Bool.false_eq_true, if_false] at h
    simp only [vc] at h
    cases he : evalL T (ops.toList.map (lowOper P gl n ops)) fr H with
    | none => rw [he] at h; exact h.elim
    | some r =>
      obtain ⟨fr', H'⟩ := r
      rw [he] at h
      refine wpIn_region (wpOps_in (fun i o ho cc e => ?_) LQ_noOut _ _ _ ?_)
      · have := List.all_eq_true.1 hp o (by simpa using Array.mem_of_getElem? ho)
        rw [e] at this
        simp at this
      · have := ops_sound hT hg ops (LQ base ds n c w Q) ops.toList 0 (by simp) c H w fr a fr' H' hI hs he (fun c' w' a' s' i' m' d' => ⟨.normal, fr', H', c', h, rfl, s', i', m', d'.trans hd⟩)
        rw [List.range_eq_range']
        simpa using this
  | .seq x y, Q, c, H, w, fr, a, hp, hI, hs, hd, h => by
    simp only [plainCode, Bool.and_eq_true] at hp
    simp only [lowCode, vc] at h
    refine wpIn_seq (wpIn_mono (code_round hT hg x _ c H w fr a hp.1 hI hs hd h) fun e a' w' hq => ?_)
    obtain ⟨le, fr', H', c', q, he, s', i', m', d'⟩ := hq
    subst he
    cases le with
    | normal => exact wpIn_mono (code_round hT hg y Q c' H' w' fr' a' hp.2 i' m' d' q) fun e a2 w2 hq2 => hq2.step s'
    | exit id => exact ⟨.exit id, fr', H', c', q, rfl, s', i', m', d'⟩
    | ret => exact ⟨.ret, fr', H', c', q, rfl, s', i', m', d'⟩
  | .cond cc x y, Q, c, H, w, fr, a, hp, hI, hs, hd, h => by
    simp only [plainCode, Bool.and_eq_true] at hp
    simp only [lowCode, vc] at h
    have rc := opd_ok hg hs hI.base cc
    split at h
    case h_3 => exact h.elim
    case h_2 =>
      rename_i hc
      rw [hc] at rc
      have hv : ∃ t, a.eval cc = .bool t := by
        generalize a.eval cc = v at rc
        cases rc with | anyb t => exact ⟨t, rfl⟩
      obtain ⟨t, hv⟩ := hv
      refine wpIn_cond hv ?_
      cases t with
      | true => simp only [if_true]; exact code_round hT hg x Q c H w fr a hp.1 hI hs hd h.1
      | false => simp only [Bool.false_eq_true, if_false]; exact code_round hT hg y Q c H w fr a hp.2 hI hs hd h.2
    rename_i t hc
    rw [hc] at rc
    have hv : a.eval cc = .bool t := by
      generalize a.eval cc = v at rc
      cases rc with | p _ _ rc => cases rc; rfl
    refine wpIn_cond hv ?_
    cases t with
    | true => simp only [if_true] at h ⊢; exact code_round hT hg x Q c H w fr a hp.1 hI hs hd h
    | false => simp only [Bool.false_eq_true, if_false] at h ⊢; exact code_round hT hg y Q c H w fr a hp.2 hI hs hd h
  | .block id x, Q, c, H, w, fr, a, hp, hI, hs, hd, h => by
    simp only [plainCode] at hp
    simp only [lowCode, vc] at h
    refine wpIn_block (wpIn_mono (code_round hT hg x _ c H w fr a hp hI hs hd h) fun e a' w' hq => ?_)
    obtain ⟨le, fr', H', c', q, he, s', i', m', d'⟩ := hq
    subst he
    cases le with
    | normal => exact ⟨.normal, fr', H', c', q, rfl, s', i', m', d'⟩
    | exit j =>
      simp only [blockQ] at q
      simp only [exitOf, Exit.inBlock]
      split at q
      · rename_i hj; rw [if_pos hj]; exact ⟨.normal, fr', H', c', q, rfl, s', i', m', d'⟩
      · rename_i hj; rw [if_neg hj]; exact ⟨.exit j, fr', H', c', q, rfl, s', i', m', d'⟩
    | ret => exact ⟨.ret, fr', H', c', q, rfl, s', i', m', d'⟩
  | .exit id, Q, c, H, w, fr, a, _, hI, hs, hd, h => wpIn_exit ⟨.exit id, fr, H, c, h, rfl, .refl _ _, hI, hs, hd⟩
/-- What a round keeps: the cells that were promised when the loop began. -/
def KeepsProt (pr : Prot) (A B : World) : Prop := ∀ b o v, pr b o = some v → A.cell? ⟨b, o, none⟩ = some v → B.cell? ⟨b, o, none⟩ = some v
theorem KeepsProt.of {c' : Ctx} {H : Heap} {w w' : World} {pr : Prot} (h : Prot.le pr c'.prot) (hI : Inv base c' H w') : KeepsProt pr w w' := fun b o v hv _ => hI.prot b o v (h b o v hv)
/-- A range over an iterator of pure values, none of whose rounds leaves early. -/
theorem range_sound {T : Tab} (hT : TabOk P base T) (hg : GlobOk base gl) {g : Operand} {ps : Array Tmp} {assign body : Code} {Q : Exit → Act → World → Prop} {c : Ctx} {H : Heap} {w : World} {a : Act} (hI : Inv base c H w)
    {gf : FuncId} {lb : Array Value} (hgv : a.eval g = .func (.func gf) #[] lb) (eg : ∀ args w, (callFunc gf args).run P w = .ok (.enter gf args) w)
    {α : Type} {encs : α → Array Value} (hps : ∀ x, (encs x).size = ps.size) {S : List α → Prop} {N m : Nat} (hseq : SeqStopsK Fence.wide m P gf lb encs (KeepsProt c.prot) S (fun _ => True) N w)
    (frx : α → AFr) (a₁ : α → Act) (hax : ∀ x, Sim n c (frx x) (a₁ x) ∧ (a₁ x).defers = [])
    (hassign : ∀ (l : Nat) (x : α) (W : World) (K : Act → World → Prop), K (a₁ x) W →
      assign.wpIn (WR l) (m + 1 - 1 - 1) P (Exit.then K (fun _ _ _ => False)) { tmps := (ps.zip (encs x)).foldl (fun t (p, v) => t.setIfInBounds p v) a.tmps, defers := [] } W)
    (I : List α → Heap → Prop) (h0 : I [] H) (hpl : plainCode body = true)
    (hb : ∀ pre x H', I pre H' → pre.length < N → vc T (lowCode P gl n body) (fun e _ H'' => e = .normal ∧ I (pre ++ [x]) H'') (frx x) H')
    (hq : ∀ xs H' D c' w', S xs → I xs H' → w.heap.size ≤ D → Step c w c' w' → Inv base c' H' w' → w'.heap[D]? = some (.deferred (some [])) → Q .normal { a with defers := { target := .collected D, args := #[] } :: a.defers } w') :
    (Code.rangeFunc g ps assign body).wp P Q a w := by
  rw [← wpIn_wide (n := m + 1)]
  refine wpIn_rangeFunc_ownF (F := Fence.wide) (n := m + 1) rfl (by omega) hgv trivial eg (encs := encs) (Kp := KeepsProt c.prot) (S := S) (Sp := fun _ => True) (N := N) (w0 := w) hseq
    (fun h k b o v hv hc => k b o v hv (h b o v hv hc)) (fun W l o o' hl ho hc hw b off v hv hcell => ?_) (Below.refl _ _) hps
    (fun pre W => ∃ c' H', I pre H' ∧ Step c w c' W ∧ Inv base c' H' W) (fun _ _ _ => False) (fun s A B row hs hgr hr => ?_) (fun _ _ _ _ _ hs _ _ => hs) ⟨c, H, h0, .refl _ _, hI⟩ a₁ hassign (fun l pre x W hi hl => ?_) (fun D xs W hD hS hi hK => ?_) (fun D cc pre W _ _ h _ => h.elim)
  · have hbl : b ≠ l := fun e => by
      subst e
      unfold World.cell? at hcell
      simp only [ho] at hcell
      cases o <;> simp [Obj.isCells] at hc hcell
    rw [World.cell?_of_block (a := ⟨b, off, none⟩)]
    · exact hcell
    · first | exact World.putObj_heap_other hbl | exact World.putObj_heap_other (Ne.symm hbl)
  · obtain ⟨c', H', hi, st, iv⟩ := hs
    exact ⟨c', H', hi, st.other hgr (fun r e => (hr r e).1), iv.other hgr (fun r e => (hr r e).2)⟩
  · obtain ⟨c', H', hi, st, iv⟩ := hi
    obtain ⟨hsim, hdef⟩ := hax x
    refine wpIn_mono (code_round hT hg body _ c' H' W (frx x) (a₁ x) hpl iv (hsim.step st) hdef (hb pre x H' hi hl)) fun e a' w' hq => ?_
    obtain ⟨le, fr', H2, c2, ⟨rfl, q⟩, he, s2, i2, _⟩ := hq
    subst he
    exact ⟨s2.others iv, KeepsProt.of (st.trans s2).prot i2, c2, H2, q, st.trans s2, i2⟩
  · obtain ⟨c', H', hi, st, iv⟩ := hi
    exact hq xs H' D c' W hS hi hD st iv hK
end
end Go.Abs

/-
  ABS, part RG: a function with a range over a function in its straight part.
-/
namespace Go.Abs
open Go.RowKit
variable {P : Program} {base : Prot}
def seqL : Code → Code
  | .seq x _ => x
  | c => c
def seqR : Code → Code
  | .seq _ y => y
  | c => c
def lseqL : LCode → LCode
  | .seq x _ => x
  | c => c
def lseqR : LCode → LCode
  | .seq _ y => y
  | c => c
/-- Codes one after the other, and a rest. -/
def seqs : List Code → Code → Code
  | [], r => r
  | x :: xs, r => .seq x (seqs xs r)
/-- Codes that all come to their ends, one after the other. -/
def vcs (T : Tab) : List LCode → (AFr → Heap → Prop) → AFr → Heap → Prop
  | [], K, fr, H => K fr H
  | x :: xs, K, fr, H => vc T x (fun e fr' H' => e = .normal ∧ vcs T xs K fr' H') fr H
section
variable {gl : Nat → AVal} {n : Nat}
theorem seqs_sound {ds : List Deferred} {T : Tab} (hm : P.follows .mixedOrders = true) (hT : TabOk P base T) (hg : GlobOk base gl) {rest : Code} {R : Exit → Act → World → Prop} {K : AFr → Heap → Prop} : ∀ (xs : List Code) (c : Ctx) (H : Heap) (w : World) (fr : AFr) (a : Act),
    Inv base c H w → Sim n c fr a → a.defers = ds → vcs T (xs.map (lowCode P gl n)) K fr H →
    (∀ fr' H' c' w' a', K fr' H' → Step c w c' w' → Inv base c' H' w' → Sim n c' fr' a' → a'.defers = ds → rest.wp P R a' w') → (seqs xs rest).wp P R a w
  | [], c, H, w, fr, a, hI, hs, hd, h, hr => hr _ _ _ _ _ h (.refl _ _) hI hs hd
  | x :: xs, c, H, w, fr, a, hI, hs, hd, h, hr => by
    simp only [List.map_cons, vcs] at h
    refine wp_seq (wp_mono (code_sound hm hT hg x _ c H w fr a hI hs hd h) fun e a' w' hq => ?_)
    obtain ⟨le, fr', H', c', ⟨rfl, q⟩, he, s', i', m', d'⟩ := hq
    subst he
    exact seqs_sound hm hT hg xs c' H' w' fr' a' i' m' d' q fun fr2 H2 c2 w2 a2 k s2 => hr fr2 H2 c2 w2 a2 k (s'.trans s2)
theorem sim_init {args : List AVal} {c : Ctx} {vs : List Value} (hr : RepL c args vs) (hn : args.length ≤ n) : Sim n c (initFr args) { tmps := vs.toArray ++ Array.replicate (n - vs.toArray.size) undef, defers := [] } := by
  have hlen : vs.length = args.length := hr.1
  refine ⟨by simp; omega, fun i hi => ?_⟩
  unfold initFr
  by_cases hia : i < args.length
  · have hiv : i < vs.length := by omega
    have : (vs.toArray ++ Array.replicate (n - vs.toArray.size) undef).getD i undef = vs[i] := by
      rw [Array.getD_eq_getD_getElem?, Array.getElem?_append_left (by simpa using hiv)]
      simp [hiv]
    rw [this, List.getElem?_eq_getElem hia]
    exact hr.2 i _ _ (by simp [hia]) (by simp [hiv])
  · have : (vs.toArray ++ Array.replicate (n - vs.toArray.size) undef).getD i undef = undef := by
      rw [Array.getD_eq_getD_getElem?, Array.getElem?_append_right (by simp; omega), Array.getElem?_replicate]
      split <;> rfl
    rw [this, List.getElem?_eq_none (by omega)]
    exact .p _ _ (.tup [] [] rfl (by simp))
theorem results_run {T : Tab} {fn : Func} {rs : List LRes} (hrs : mapO (lowRes P fn.ntmps) fn.results.toList = some rs) {fr : AFr} {H : Heap} {c : Ctx} {w : World} {a : Act} (hI : Inv base c H w) (hs : Sim fn.ntmps c fr a) {r : AVal} (hf : finish T rs fr H = some r) :
    ∃ v, (results fn a.tmps).run P w = .ok v w ∧ Rep c r v := by
  unfold finish at hf
  cases hxs : mapO (resOne T fr H) rs with
  | none => rw [hxs] at hf; cases hf
  | some xs =>
    rw [hxs] at hf
    obtain ⟨us, q1, q2⟩ := lowRes_run hI hs fn.results.toList rs xs hrs hxs
    have hres : (results fn a.tmps).run P w = .ok (if h : us.toArray.size = 1 then us.toArray[0] else .tuple us.toArray) w := by
      unfold results
      have : (fn.results.mapM (resSem a)).run P w = .ok us.toArray w := by
        rw [Array.mapM_eq_mapM_toList]
        simp [q1]
      show ((fn.results.mapM (resSem a)) >>= _).run P w = _
      rw [Sem.run_bind, this]
      rfl
    refine ⟨_, hres, ?_⟩
    have hus := q2.1
    match xs, us, q2, hus, hf with
    | [x], [u], q2, _, hf => cases hf; simpa using q2.2 0 _ u rfl rfl
    | [], [], q2, _, hf => simp [allP] at hf; subst hf; exact .p _ _ (.tup [] [] rfl (by simp))
    | x :: y :: xs, u :: v :: us, q2, _, hf =>
      have : ¬ (u :: v :: us).toArray.size = 1 := by simp
      rw [dif_neg this]
      simp only at hf
      cases hps : allP (x :: y :: xs) with
      | none => rw [hps] at hf; cases hf; exact .tup _ _ q2.1 q2.2
      | some ps =>
        rw [hps] at hf
        cases hf
        rw [allP_some hps] at q2
        refine .p _ _ (.tup ps _ (by have := q2.1; simpa using this) (fun j a b h1 h2 => ?_))
        have := q2.2 j (.p a) b (by simp [h1]) h2
        cases this with
        | p _ _ h => exact h
/-- What a function comes to whose body has a range over a function in its straight part. -/
theorem calls_of_range {T : Tab} (hm : P.follows .mixedOrders = true) (hT : TabOk P base T) (hg : GlobOk base gl) {f : FuncId} {fn : Func} (hf : P.funcs[f]? = some fn) {pre : List Code} {r assign body tail : Code} {id : Nat} {g : Operand} {ps : Array Tmp}
    (hb : fn.body = some (seqs pre ((r.seq (.block id (.rangeFunc g ps assign body))).seq tail))) {rs : List LRes} (hrs : mapO (lowRes P fn.ntmps) fn.results.toList = some rs) {args : List AVal} (hn : args.length ≤ fn.ntmps) {H : Heap} {Q : AVal → Heap → Prop}
    {c : Ctx} {w : World} {vs : List Value} (hI : Inv base c H w) (hr : RepL c args vs) (K : AFr → Heap → Prop)
    (hpre : vcs T (pre.map (lowCode P gl fn.ntmps)) (fun fr' H' => vc T (lowCode P gl fn.ntmps r) (fun e fr2 H2 => e = .normal ∧ K fr2 H2) fr' H') (initFr args) H)
    (hrange : ∀ fr' H' c' w' a', K fr' H' → Step c w c' w' → Inv base c' H' w' → Sim fn.ntmps c' fr' a' → a'.defers = [] →
      (Code.rangeFunc g ps assign body).wp P (fun e a2 w2 => e = .normal ∧ ∃ D fr2 H2 c2, a2.defers = [{ target := .collected D, args := #[] }] ∧ Step c' w' c2 w2 ∧ Inv base c2 H2 w2 ∧ Sim fn.ntmps c2 fr2 a2 ∧
        w2.heap[D]? = some (.deferred (some [])) ∧ w'.heap.size ≤ D ∧ vc T (lowCode P gl fn.ntmps tail) (retQ T rs Q) fr2 H2) a' w') :
    Calls P f vs.toArray w fun e w' => ∃ v r H' c', e = .returned v ∧ Q r H' ∧ Step c w c' w' ∧ Inv base c' H' w' ∧ Rep c' r v := by
  rw [← callsIn_wide (n := 1)]
  refine callsIn_of_wp_marks hf hb trivial ?_ rfl
  rw [wpIn_wide]
  refine seqs_sound hm hT hg pre c H w _ _ hI (sim_init hr hn) rfl hpre fun fr1 H1 c1 w1 a1 h1 s1 i1 m1 d1 => ?_
  refine wp_seq (wp_seq (wp_mono (code_sound hm hT hg r _ c1 H1 w1 fr1 a1 i1 m1 d1 h1) fun e a2 w2 hq => ?_))
  obtain ⟨le, fr2, H2, c2, ⟨rfl, k2⟩, he, s2, i2, m2, d2⟩ := hq
  subst he
  refine wp_block (wp_mono (hrange fr2 H2 c2 w2 a2 k2 (s1.trans s2) i2 m2 d2) fun e a3 w3 hq => ?_)
  obtain ⟨rfl, D, fr3, H3, c3, d3, s3, i3, m3, hD, hDw, h3⟩ := hq
  refine wp_mono (code_sound hm hT hg tail _ c3 H3 w3 fr3 a3 i3 m3 d3 h3) fun e a4 w4 hq => ?_
  obtain ⟨le, fr4, H4, c4, q, he, s4, i4, m4, d4⟩ := hq
  have hD4 : w4.heap[D]? = some (.deferred (some [])) := (s4.others i3).2 D _ hD rfl
  have hgr := grownBy_putObj' w4 D (.deferred none)
  have hrow : ∀ r, some D = some r → ∃ o : Obj, w4.heap[r]? = some o ∧ o.isCells = false := fun r e => by cases e; exact ⟨_, hD4, rfl⟩
  have fin : (match finish T rs fr4 H4 with | some r => Q r H4 | none => False) → LeavesInM Fence.wide 1 P fn a4.tmps (fun e w' => ∃ v r H' c', e = .returned v ∧ Q r H' ∧ Step c w c' w' ∧ Inv base c' H' w' ∧ Rep c' r v) a4.defers .returning w4 := by
    intro hq0
    cases hfin : finish T rs fr4 H4 with
    | none => rw [hfin] at hq0; exact hq0.elim
    | some r =>
      rw [hfin] at hq0
      have i5 := i4.other hgr hrow
      obtain ⟨v, hv, hrep⟩ := results_run hrs i5 m4 hfin
      rw [d4]
      refine ⟨by simp, .inl ⟨_, _, rfl, run_takeDeferred hD4, ?_⟩⟩
      have st : Step c w c4 (w4.putObj D (.deferred none)) := (((s1.trans s2).trans s3).trans s4).other hgr (fun r e => by
        cases e
        exact Nat.le_trans (s1.trans s2).size hDw)
      exact ⟨v, hv, v, r, H4, c4, rfl, hq0, st, i5, hrep⟩
  subst he
  cases le with
  | normal => exact fin q
  | exit id => exact q.elim
  | ret => exact fin q
end
end Go.Abs
