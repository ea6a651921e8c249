/-
  A library of the prover's own, part 4: a range over a function. No conditions.
-/
import Derived.Test.YtgbjjikaenlkmaaGreatAbsThree
import Derived.RangeFuncNested
import Derived.RangeFuncBound
import Derived.RangeFuncCalls
import Derived.RangeFuncLeaves
import Derived.TacticsIn
import Derived.RangeFuncWrites
import Derived.RangeFuncBox
set_option linter.unusedSimpArgs false
set_option linter.unnecessarySimpa false
set_option linter.unusedVariables false
set_option linter.constructorNameAsVariable false

/-
 ABS, part RF: a range over a function: its rounds, carried out as code of pure values and own arrays.
-/
namespace Go.Abs
open Go.RowKit
variable {P : Program} {base : Prot}
theorem Inv.other {c : Ctx} {H : Heap} {w w' : World} {row : Option Nat} (hI : Inv base c H w) (hg : w.grownBy w' row) (hr : ∀ r, row = some r → ∃ o : Obj, w.heap[r]? = some o ∧ o.isCells = false)
  (hn : ∀ (r k : Nat) l cap, row = some r → c.locs[k]? = some l → l.mp = true → l.place = some (r, cap) → False) : Inv base c H w' := by
 have same : ∀ b, b < w.heap.size → (∀ cur ty fr, w.heap[b]? = some (.cells cur ty fr) → w'.heap[b]? = w.heap[b]?) := fun b hb cur ty fr hc => by
  refine hg.block b hb (fun e => ?_)
  obtain ⟨o, h1, h2⟩ := hr b e.symm
  rw [hc] at h1
  cases h1
  simp [Obj.isCells] at h2
 refine ⟨hI.base, hI.len, fun b o v hv => ?_, fun k e l h1 h2 => ?_, hI.inj⟩
 ·have h1 := hI.prot b o v hv
  have hb := hI.prot_lt hv
  have : ∃ cur ty fr, w.heap[b]? = some (.cells cur ty fr) := by
   unfold World.cell? at h1
   simp only at h1
   cases ho : w.heap[b]? with
   | none => rw [ho] at h1; simp at h1
   | some ob =>
    rw [ho] at h1
    cases ob with
    | cells cur ty fr => exact ⟨_, _, _, rfl⟩
    | _ => simp at h1
  obtain ⟨cur, ty, fr, hc⟩ := this
  rw [cell_of_heap (same b hb cur ty fr hc)]
  exact h1
 ·have ok := hI.ent k e l h1 h2
  have hb : ∀ g cap, l.place = some (g, cap) → w'.heap[g]? = w.heap[g]? := fun g cap hp => by
   cases hm : l.mp with
   | false =>
    obtain ⟨cur, ty, hh, _⟩ := ok.there g cap hp hm
    exact same g (hI.loced_lt ⟨k, l, cap, h2, hp⟩) _ _ _ hh
   | true => exact hg.block g (hI.loced_lt ⟨k, l, cap, h2, hp⟩) (fun e => hn g k l cap e.symm h2 hm hp)
  exact ⟨ok.ver, ok.size, ok.pos, ok.cells, ok.nowhere, fun g cap cur ty fr hl hh => ok.typed g cap cur ty fr hl ((hb g cap hl).symm.trans hh), (fun g cap hl hm => by
   obtain ⟨es, ck, a1, a2⟩ := ok.mapped g cap hl hm
   exact ⟨es, ck, (hb g cap hl).trans a1, a2⟩), fun g cap hl hm => by
   obtain ⟨cur, ty, a1, a2⟩ := ok.there g cap hl hm
   exact ⟨cur, ty, (hb g cap hl).trans a1, a2⟩⟩
theorem Step.other {c c' : Ctx} {w0 w w' : World} {row : Option Nat} (h : Step c w0 c' w) (hg : w.grownBy w' row) (hr : ∀ r, row = some r → w0.heap.size ≤ r) : Step c w0 c' w' :=
 ⟨h.prot, h.locs, hg.os.trans h.os, hg.tape.trans h.tape, hg.output.trans h.output, Nat.le_trans h.size hg.size,
  fun b hb hn => (hg.block b (Nat.lt_of_lt_of_le hb h.size) (fun e => by have := hr b e.symm; omega)).trans (h.blk b hb hn), h.newloc, h.newprot⟩
theorem Step.from {B : Nat} {c c' : Ctx} {H : Heap} {w w' : World} (h : Step c w c' w') (hI : Inv base c H w) (hm : ∀ (k : Nat) l g cap, c.locs[k]? = some l → l.mp = true → l.place = some (g, cap) → g < B) : KeepsFrom B w w' :=
 ⟨h.size, fun k o hB hk ho => by
  have hlt := (Array.getElem?_eq_some_iff.1 hk).1
  rw [h.blk k hlt (fun ⟨j, l, cap, h1, h2⟩ => ?_)]
  ·exact hk
  ·obtain ⟨e, _, ok⟩ := hI.entOf h1
   cases hp : l.mp with
   | true => have := hm j l k cap h1 hp h2; omega
   | false =>
    obtain ⟨cur, ty, hh, _⟩ := ok.there k cap h2 hp
    rw [hk] at hh
    cases hh
    simp [Obj.isCells] at ho⟩
theorem Step.obj {c c' : Ctx} {H : Heap} {w w' : World} (h : Step c w c' w') (hI : Inv base c H w) {k : Nat} {o : Obj} (hk : w.heap[k]? = some o) (h1 : o.isCells = false) (h2 : ∀ es ck, o ≠ .map es ck) : w'.heap[k]? = some o := by
 have hlt := (Array.getElem?_eq_some_iff.1 hk).1
 rw [h.blk k hlt (fun ⟨j, l, cap, a, b⟩ => ?_)]
 ·exact hk
 ·obtain ⟨e, _, ok⟩ := hI.entOf a
  cases hp : l.mp with
  | true => obtain ⟨es, ck, hh, _⟩ := ok.mapped k cap b hp; rw [hk] at hh; cases hh; exact h2 _ _ rfl
  | false => obtain ⟨cur, ty, hh, _⟩ := ok.there k cap b hp; rw [hk] at hh; cases hh; simp [Obj.isCells] at h1
theorem Inv.notMap {c : Ctx} {H : Heap} {w : World} (hI : Inv base c H w) {g : Nat} {o : Obj} (hg : w.heap[g]? = some o) (ho : ∀ es ck, o ≠ .map es ck) {k : Nat} {l : Loc} {cap : Nat} (hl : c.locs[k]? = some l) (hm : l.mp = true) (hp : l.place = some (g, cap)) : False := by
 obtain ⟨e, _, ok⟩ := hI.entOf hl
 obtain ⟨es, ck, hh, _⟩ := ok.mapped g cap hp hm
 rw [hg] at hh
 cases hh
 exact ho _ _ rfl
def MapsOld (H H' : Heap) : Prop := ∀ (k : Nat) e, H'[k]? = some e → e.size = 0 → ∃ e0, H[k]? = some e0 ∧ e0.size = 0 ∧ e0.ver = e.ver
theorem MapsOld.low {c c' : Ctx} {H H' : Heap} {w w' : World} (h : MapsOld H H') (hI : Inv base c H w) (hs : Step c w c' w') (hI' : Inv base c' H' w') {k : Nat} {l : Loc} {g cap : Nat} (hl : c'.locs[k]? = some l) (hm : l.mp = true) (hp : l.place = some (g, cap)) : g < w.heap.size := by
 obtain ⟨e, he, ok⟩ := hI'.entOf hl
 have hz : e.size = 0 := by have := ok.pos; rw [hm] at this; exact of_decide_eq_true this.symm
 obtain ⟨e0, h0, h1, h2⟩ := h k e he hz
 obtain ⟨l0, a1, ok0⟩ := hI.loc h0
 obtain ⟨l2, b1, b2, b3⟩ := hs.locs k l0 a1
 rw [hl] at b1
 cases b1
 have e1 : l = l0 := b3 (by rw [ok.ver, ok0.ver, h2])
 subst e1
 exact hI.loced_lt ⟨k, l, cap, a1, hp⟩
abbrev WR (l : Nat) : Fence := Fence.wide.inRound l
theorem upon_in {l n : Nat} {o : Oper} {a : Act} {next next' : Act → World → Prop} {Q : Exit → Act → World → Prop} (hn : ∀ a w, next a w → next' a w) {r : Result Next} (h : o.upon P a next Q r) : o.uponIn (WR l) n P a next' Q r := by
 match r, h with
 | .ok (.value v) w, h => exact hn _ _ h
 | .ok .skip w, h => exact hn _ _ h
 | .ok (.defer d) w, h => exact hn _ _ h
 | .ok (.enter f args) w, h =>
  refine ⟨fun h => by simp [Fence.wide] at h, CallsIn.inRound l ((callsIn_wide.2 h).mono ?_)⟩
  intro e w' hq
  cases e with
  | returned v => exact hn _ _ hq
  | panicked ch => exact hq
  | outgrown => exact hq
 | .ok (.row row args) w, h =>
  refine ⟨fun h => by simp [Fence.wide] at h, fun c cs _ => ?_⟩
  obtain ⟨v, w', hq, hs⟩ := h c cs
  exact ⟨v, w', hn _ _ hq, (stepsIn_wide (P := P)).2 hs⟩
 | .halt (.panic v) w, h => exact h
theorem wpOps_in {l0 n : Nat} {ops : Array Oper} {Q : Exit → Act → World → Prop} (hd : ∀ (i : Nat) o, ops[i]? = some o → ∀ c, o.op ≠ .defer c) (hQ : ¬ LetsOut Q) : ∀ (l : List Nat) (a : Act) (w : World), wpOps P ops Q l a w → wpOpsIn (WR l0) n P ops Q l a w
 | [], _, _, h => h
 | i :: rest, a, w, h => by
  unfold wpOps at h
  unfold wpOpsIn
  cases ho : ops[i]? with
  | none => rw [ho] at h; exact wpOps_in hd hQ rest a w h
  | some o =>
   rw [ho] at h
   simp only at h ⊢
   split
   ·rename_i hw
    rw [if_pos hw] at h
    rcases h with h | ⟨_, h⟩
    ·refine ⟨fun _ _ => trivial, ?_⟩
     rw [show (WR l0).round = some l0 from rfl, Oper.semAt_some _ _ _ (hd i o ho)]
     exact upon_in (fun a w hh => wpOps_in hd hQ rest a w hh) h
    ·exact absurd h hQ
   ·rename_i hw
    rw [if_neg hw] at h
    exact ⟨fun _ _ => trivial, wpOps_in hd hQ rest _ w h⟩
def plainCode : Code → Bool
 | .skip => true
 | .region _ ops draw => !draw && ops.toList.all (fun o => match o.op with | .defer _ => false | _ => true)
 | .seq a b => plainCode a && plainCode b
 | .cond _ a b => plainCode a && plainCode b
 | .block _ b => plainCode b
 | .exit _ => true
 | _ => false
section
variable {gl : Nat → AVal} {n : Nat}
theorem LQ_noOut {ds : List Deferred} {c : Ctx} {w : World} {Q : LExit → AFr → Heap → Prop} : ¬ LetsOut (LQ base ds n c w Q) := by
 rintro ⟨a, w', h⟩
 obtain ⟨le, fr', H', c', q, he, _⟩ := h
 cases le <;> simp [exitOf] at he
theorem code_round {l0 m : Nat} {ds : List Deferred} {T : Tab} (hT : TabOk P base T) (hg : GlobOk base gl) : ∀ (code : Code) (Q : LExit → AFr → Heap → Prop) (c : Ctx) (H : Heap) (w : World) (fr : AFr) (a : Act), plainCode code = true →
  Inv base c H w → Sim n c fr a → a.defers = ds → vc T (lowCode P gl n code) Q fr H → code.wpIn (WR l0) m P (LQ base ds n c w Q) a w
 | .skip, Q, c, H, w, fr, a, _, hI, hs, hd, h => wpIn_skip ⟨.normal, fr, H, c, h, rfl, .refl _ _, hI, hs, hd⟩
 | .region id ops draw, Q, c, H, w, fr, a, hp, hI, hs, hd, h => by
  simp only [plainCode, Bool.and_eq_true, Bool.not_eq_true'] at hp
  obtain ⟨hdr, hp⟩ := hp
  subst hdr
  simp only [lowCode, Bool.false_eq_true, if_false] at h
  simp only [vc] at h
  cases he : evalL T (ops.toList.map (lowOper P gl n ops)) fr H with
  | none => rw [he] at h; exact h.elim
  | some r =>
   obtain ⟨fr', H'⟩ := r
   rw [he] at h
   refine wpIn_region (wpOps_in (fun i o ho cc e => ?_) LQ_noOut _ _ _ ?_)
   ·have := List.all_eq_true.1 hp o (by simpa using Array.mem_of_getElem? ho)
    rw [e] at this
    simp at this
   ·have := ops_sound hT hg ops (LQ base ds n c w Q) ops.toList 0 (by simp) c H w fr a fr' H' hI hs he (fun c' w' a' s' i' m' d' => ⟨.normal, fr', H', c', h, rfl, s', i', m', d'.trans hd⟩)
    rw [List.range_eq_range']
    simpa using this
 | .seq x y, Q, c, H, w, fr, a, hp, hI, hs, hd, h => by
  simp only [plainCode, Bool.and_eq_true] at hp
  simp only [lowCode, vc] at h
  refine wpIn_seq (wpIn_mono (code_round hT hg x _ c H w fr a hp.1 hI hs hd h) fun e a' w' hq => ?_)
  obtain ⟨le, fr', H', c', q, he, s', i', m', d'⟩ := hq
  subst he
  cases le with
  | normal => exact wpIn_mono (code_round hT hg y Q c' H' w' fr' a' hp.2 i' m' d' q) fun e a2 w2 hq2 => hq2.step s'
  | exit id => exact ⟨.exit id, fr', H', c', q, rfl, s', i', m', d'⟩
  | ret => exact ⟨.ret, fr', H', c', q, rfl, s', i', m', d'⟩
 | .cond cc x y, Q, c, H, w, fr, a, hp, hI, hs, hd, h => by
  simp only [plainCode, Bool.and_eq_true] at hp
  simp only [lowCode, vc] at h
  have rc := opd_ok hg hs hI.base cc
  split at h
  case h_3 => exact h.elim
  case h_2 =>
   rename_i hc
   rw [hc] at rc
   have hv : ∃ t, a.eval cc = .bool t := by
    generalize a.eval cc = v at rc
    cases rc with | anyb t => exact ⟨t, rfl⟩
   obtain ⟨t, hv⟩ := hv
   refine wpIn_cond hv ?_
   cases t with
   | true => simp only [if_true]; exact code_round hT hg x Q c H w fr a hp.1 hI hs hd h.1
   | false => simp only [Bool.false_eq_true, if_false]; exact code_round hT hg y Q c H w fr a hp.2 hI hs hd h.2
  rename_i t hc
  rw [hc] at rc
  have hv : a.eval cc = .bool t := by
   generalize a.eval cc = v at rc
   cases rc with | p _ _ rc => cases rc; rfl
  refine wpIn_cond hv ?_
  cases t with
  | true => simp only [if_true] at h ⊢; exact code_round hT hg x Q c H w fr a hp.1 hI hs hd h
  | false => simp only [Bool.false_eq_true, if_false] at h ⊢; exact code_round hT hg y Q c H w fr a hp.2 hI hs hd h
 | .block id x, Q, c, H, w, fr, a, hp, hI, hs, hd, h => by
  simp only [plainCode] at hp
  simp only [lowCode, vc] at h
  refine wpIn_block (wpIn_mono (code_round hT hg x _ c H w fr a hp hI hs hd h) fun e a' w' hq => ?_)
  obtain ⟨le, fr', H', c', q, he, s', i', m', d'⟩ := hq
  subst he
  cases le with
  | normal => exact ⟨.normal, fr', H', c', q, rfl, s', i', m', d'⟩
  | exit j =>
   simp only [blockQ] at q
   simp only [exitOf, Exit.inBlock]
   split at q
   ·rename_i hj; rw [if_pos hj]; exact ⟨.normal, fr', H', c', q, rfl, s', i', m', d'⟩
   ·rename_i hj; rw [if_neg hj]; exact ⟨.exit j, fr', H', c', q, rfl, s', i', m', d'⟩
  | ret => exact ⟨.ret, fr', H', c', q, rfl, s', i', m', d'⟩
 | .exit id, Q, c, H, w, fr, a, _, hI, hs, hd, h => wpIn_exit ⟨.exit id, fr, H, c, h, rfl, .refl _ _, hI, hs, hd⟩
def KeepsProt (pr : Prot) (A B : World) : Prop := ∀ b o v, pr b o = some v → A.cell? ⟨b, o, none⟩ = some v → B.cell? ⟨b, o, none⟩ = some v
theorem KeepsProt.of {c' : Ctx} {H : Heap} {w w' : World} {pr : Prot} (h : Prot.le pr c'.prot) (hI : Inv base c' H w') : KeepsProt pr w w' := fun b o v hv _ => hI.prot b o v (h b o v hv)
theorem Inv.addFrozen {c : Ctx} {H : Heap} {w : World} (hI : Inv base c H w) {b : Nat} {cur : Array Value} {ty : TypeId} {size : Nat} {y : PVal} (hb : w.heap[b]? = some (.cells cur ty (0, 0))) (hn : ¬ Loced c b) (hpos : 0 < size) (hcur : cur.size = size)
  (hl : y.cells.length = size) (hk : ∀ x ∈ y.cells, x.isCell = true) (hr : ∀ (j : Nat) x, y.cells[j]? = some x → ∃ v, cur[j]? = some v ∧ PRep c.prot x v) :
  Inv base ⟨c.locs ++ [⟨0, size, some (b, 1), false⟩], c.prot⟩ (H ++ [⟨size, 0, true, [.p y], ty⟩]) w := by
 have split : ∀ {k : Nat} {l : Loc}, (c.locs ++ [⟨0, size, some (b, 1), false⟩])[k]? = some l → (k < c.locs.length ∧ c.locs[k]? = some l) ∨ (k = c.locs.length ∧ l = ⟨0, size, some (b, 1), false⟩) := by
  intro k l a
  by_cases hk : k < c.locs.length
  ·rw [List.getElem?_append_left hk] at a; exact .inl ⟨hk, a⟩
  ·have hk0 : k = c.locs.length := by have := (List.getElem?_eq_some_iff.1 a).1; simp at this; omega
   subst hk0
   simp at a
   exact .inr ⟨rfl, a.symm⟩
 have up : ∀ {x : AVal} {v : Value}, Rep c x v → Rep ⟨c.locs ++ [⟨0, size, some (b, 1), false⟩], c.prot⟩ x v := fun r => by
  have st : Step c ({ w with heap := #[] } : World) ⟨c.locs ++ [⟨0, size, some (b, 1), false⟩], c.prot⟩ ({ w with heap := #[] } : World) :=
   ⟨fun _ _ _ h => h, fun k l h => ⟨l, (List.getElem?_append_left (List.getElem?_eq_some_iff.1 h).1).trans h, Nat.le_refl _, fun _ => rfl⟩, rfl, rfl, rfl, Nat.le_refl _, fun _ _ _ => rfl, fun q _ => .inr (Nat.zero_le _), fun _ _ _ h => .inl h⟩
  exact r.step st
 refine ⟨hI.base, by simp [hI.len], hI.prot, fun k e l h1 h2 => ?_, fun k k' l l' g cp cp' h1 h2 h3 h4 => ?_⟩
 ·rcases split h2 with ⟨hk, h⟩ | ⟨rfl, rfl⟩
  ·rw [List.getElem?_append_left (by rw [← hI.len]; exact hk)] at h1
   have ok := hI.ent k e l h1 h
   refine ⟨ok.ver, ok.size, ok.pos, ok.cells, ok.nowhere, ok.typed, ok.mapped, fun g cap hp hm => ?_⟩
   obtain ⟨cur', ty', a1, a2, a3, a4, a5, a6⟩ := ok.there g cap hp hm
   exact ⟨cur', ty', a1, a2, a3, a4, fun i x j z hx hz => let ⟨v, p, q⟩ := a5 i x j z hx hz; ⟨v, p, up q⟩, a6⟩
  ·rw [hI.len, List.getElem?_append_right (Nat.le_refl _), Nat.sub_self] at h1
   simp at h1
   subst h1
   refine ⟨rfl, rfl, noMap hpos, fun _ x hx => ?_, by simp, fun g cp cur' ty' fr' hl' hh => ?_, (fun _ _ _ hm => by cases hm), fun g cp hl' _ => ?_⟩
   ·simp at hx
    subst hx
    refine ⟨by simpa [AVal.cells] using hl, fun z hz => ?_⟩
    obtain ⟨u, hu, rfl⟩ := List.mem_map.1 hz
    exact hk u hu
   ·simp at hl'
    obtain ⟨rfl, rfl⟩ := hl'
    rw [hb] at hh
    cases hh; rfl
   ·simp at hl'
    obtain ⟨rfl, rfl⟩ := hl'
    refine ⟨cur, ty, hb, by simp [hcur], by unfold maxLen; omega, by simp, fun i x j z hx hz => ?_, fun o v ho => ⟨rfl, ?_⟩⟩
    ·cases i with
     | zero =>
      simp at hx; subst hx
      simp only [AVal.cells, List.getElem?_map, Option.map_eq_some_iff] at hz
      obtain ⟨u, hu, rfl⟩ := hz
      obtain ⟨v, h1, h2⟩ := hr j u hu
      exact ⟨v, by simpa using h1, .p _ _ h2⟩
     | succ i => simp at hx
    ·have h0 := hI.prot b o v ho
     rw [cell_of_row w b o cur ty (0, 0) hb] at h0
     have := (Array.getElem?_eq_some_iff.1 h0).1
     simp
     omega
 ·rcases split h1 with ⟨_, a⟩ | ⟨rfl, rfl⟩ <;> rcases split h2 with ⟨_, d⟩ | ⟨rfl, rfl⟩
  ·exact hI.inj k k' l l' g cp cp' a d h3 h4
  ·simp at h4
   obtain ⟨rfl, _⟩ := h4
   exact absurd ⟨k, l, cp, a, h3⟩ hn
  ·simp at h3
   obtain ⟨rfl, _⟩ := h3
   exact absurd ⟨k', l', cp', d, h4⟩ hn
  ·rfl
theorem range_box {T : Tab} (hT : TabOk P base T) (hg : GlobOk base gl) {g : Operand} {ps : Array Tmp} {assign body : Code} {Q : Exit → Act → World → Prop} {c : Ctx} {H : Heap} {w : World} {a : Act} (hI : Inv base c H w)
  {gf : FuncId} {lb : Array Value} (hgv : a.eval g = .func (.func gf) #[] lb) (eg : ∀ args w, (callFunc gf args).run P w = .ok (.enter gf args) w)
  {α : Type} {encs : α → Array Value} (hps : ∀ x, (encs x).size = ps.size) {S : List α → Prop} {N m : Nat} (hseq : SeqStopsK Fence.wide m P gf lb encs (KeepsProt c.prot) S (fun _ => True) N w)
  {p size : Nat} {ty : TypeId} (hpos : 0 < size) (vx : α → List Value) (yx : α → PVal) (hvx : ∀ x, (vx x).length = size) (hyl : ∀ x, (yx x).cells.length = size) (hyk : ∀ x, ∀ z ∈ (yx x).cells, z.isCell = true)
  (hyv : ∀ x (j : Nat) z, (yx x).cells[j]? = some z → ∃ v, (vx x)[j]? = some v ∧ PRep c.prot z v)
  (frx : α → AFr) (a₁ : α → Act) (hax : ∀ x, Sim n c (frx x) (a₁ x) ∧ (a₁ x).defers = [])
  (hassign : ∀ (l : Nat) (x : α) (W : World) (K : Act → World → Prop), K ((a₁ x).put (some p) (.pointer (some ⟨W.heap.size, 0, none⟩))) (W.alloc (.cells (vx x).toArray ty)) →
   assign.wpIn (WR l) (m + 1 - 1 - 1) P (Exit.then K (fun _ _ _ => False)) { tmps := (ps.zip (encs x)).foldl (fun t (p, v) => t.setIfInBounds p v) a.tmps, defers := [] } W)
  (H0 : List α → Heap) (h0 : H0 [] = H) (hlen : ∀ pre, (H0 pre).length = H.length) (hver : ∀ pre (k : Nat) e, (H0 pre)[k]? = some e → ∃ e0, H[k]? = some e0 ∧ e0.ver = e.ver ∧ e0.size = e.size) (hbel : ∀ pre, BelowH H.length (H0 pre)) (hpl : plainCode body = true)
  (hb : ∀ pre x, pre.length < N → vc T (lowCode P gl n body) (fun e _ H'' => e = .normal ∧ ∃ E, H'' = H0 (pre ++ [x]) ++ E) (put (frx x) (some p) (.optr H.length 0 0 0)) (H0 pre ++ [⟨size, 0, true, [.p (yx x)], ty⟩]))
  (hq : ∀ xs D c' w', S xs → w.heap.size ≤ D → Step c w c' w' → Inv base c' (H0 xs) w' → w'.heap[D]? = some (.deferred (some [])) → Q .normal { a with defers := { target := .collected D, args := #[] } :: a.defers } w') :
  (Code.rangeFunc g ps assign body).wp P Q a w := by
 have hmo : ∀ pre, MapsOld H (H0 pre) := fun pre k e he hz => by
  obtain ⟨e0, h1, h2, h3⟩ := hver pre k e he
  exact ⟨e0, h1, by rw [h3]; exact hz, h2⟩
 rw [← wpIn_wide (n := m + 1)]
 refine wpIn_rangeFunc_ownH (F := Fence.wide) (n := m + 1) rfl (by omega) hgv trivial eg (encs := encs) (Kp := KeepsProt c.prot) (S := S) (Sp := fun _ => True) (N := N) (w0 := w) hseq
  (fun h k b o v hv hc => k b o v hv (h b o v hv hc)) (fun W l o o' hl ho hc hw b off v hv hcell => ?_) (Below.refl _ _) hps
  (fun pre W => ∃ pr, Inv base ⟨c.locs, pr⟩ (H0 pre) W ∧ Step c w ⟨c.locs, pr⟩ W) (fun _ _ _ => False) (fun s A B row hs hgr hr => ?_) (fun _ _ _ _ _ hs _ _ => hs) ⟨c.prot, by rw [h0]; exact hI, .refl _ _⟩
  (fun x a' W => ∃ b, w.heap.size ≤ b ∧ W.heap[b]? = some (.cells (vx x).toArray ty (0, 0)) ∧ a' = (a₁ x).put (some p) (.pointer (some ⟨b, 0, none⟩))) (fun x a' s A B row hs hgr hr => ?_)
  (fun l pre x W K hi hK => ?_) (fun l pre x a' W hl _ hi hA hlt => ?_) (fun D xs W hD hS hi hK => ?_) (fun D cc pre W _ _ h _ => h.elim)
 ·have hbl : b ≠ l := fun e => by
   subst e
   unfold World.cell? at hcell
   simp only [ho] at hcell
   cases o <;> simp [Obj.isCells] at hc hcell
  rw [World.cell?_of_block (a := ⟨b, off, none⟩)]
  ·exact hcell
  ·first | exact World.putObj_heap_other hbl | exact World.putObj_heap_other (Ne.symm hbl)
 ·obtain ⟨pr, iv, st⟩ := hs
  exact ⟨pr, iv.other hgr (fun r e => (hr r e).2) (fun r k l cap e h1 h2 h3 => by
   have := (hmo _).low hI st iv h1 h2 h3
   have := (hr r e).1
   omega), st.other hgr (fun r e => (hr r e).1)⟩
 ·obtain ⟨b, h1, h2, h3⟩ := hs
  exact ⟨b, h1, (grownBy_keeps_cells hgr (fun r e => (hr r e).2) h2 rfl).trans h2, h3⟩
 ·obtain ⟨pr, iv, st⟩ := hi
  have gw : Grew W (W.alloc (.cells (vx x).toArray ty)) := (Grew.refl W).alloc _
  have s1 := gw.step ⟨c.locs, pr⟩
  exact hassign l x W K (hK _ _ (s1.from iv (fun k l g cap h1 h2 h3 => (hmo _).low hI st iv h1 h2 h3)) (KeepsProt.of (c' := ⟨c.locs, pr⟩) st.prot (iv.grew gw)) ⟨pr, iv.grew gw, st.trans s1⟩
   ⟨W.heap.size, st.size, heap_alloc_new _ _, rfl⟩)
 ·obtain ⟨pr, iv, st⟩ := hi
  obtain ⟨b, hb1, hb2, rfl⟩ := hA
  have hnl : ¬ Loced (⟨c.locs, pr⟩ : Ctx) b := fun ⟨k, l, cap, h1, h2⟩ => by
   have := hI.loced_lt ⟨k, l, cap, h1, h2⟩
   omega
  have iv2 := iv.addFrozen hb2 hnl hpos (by simpa using hvx x) (hyl x) (hyk x) (fun j z hz => by
   obtain ⟨v, h1, h2⟩ := hyv x j z hz
   exact ⟨v, by simpa using h1, h2.mono st.prot⟩)
  have hclen : c.locs.length = H.length := hI.len
  have st2 : Step c w ⟨c.locs ++ [⟨0, size, some (b, 1), false⟩], pr⟩ W := by
   refine ⟨st.prot, fun k l h => ⟨l, (List.getElem?_append_left (List.getElem?_eq_some_iff.1 h).1).trans h, Nat.le_refl _, fun _ => rfl⟩, st.os, st.tape, st.output, st.size, st.blk, fun q hq => ?_, st.newprot⟩
   obtain ⟨k, l, cp, h1, h2⟩ := hq
   by_cases hk : k < c.locs.length
   ·rw [List.getElem?_append_left hk] at h1
    exact .inl ⟨k, l, cp, h1, h2⟩
   ·have hk0 : k = c.locs.length := by have := (List.getElem?_eq_some_iff.1 h1).1; simp at this; omega
    subst hk0
    simp at h1
    subst h1
    simp at h2
    obtain ⟨rfl, _⟩ := h2
    exact .inr hb1
  obtain ⟨hsim, hdef⟩ := hax x
  have hsim2 : Sim n ⟨c.locs ++ [⟨0, size, some (b, 1), false⟩], pr⟩ (put (frx x) (some p) (.optr H.length 0 0 0)) ((a₁ x).put (some p) (.pointer (some ⟨b, 0, none⟩))) :=
   (hsim.step st2).put (.optr _ _ _ _ ⟨0, size, some (b, 1), false⟩ _ (by rw [← hclen]; simp) (Nat.le_refl _) (fun _ => ⟨rfl, b, 1, rfl, by simp⟩) ⟨_, rfl⟩) (some p)
  refine wpIn_mono (code_round hT hg body _ _ _ W _ _ hpl iv2 hsim2 hdef (hb pre x hlt)) fun e a' w' hq => ?_
  obtain ⟨le, fr', H2, c2, ⟨rfl, E, rfl⟩, he, s2, i2, _⟩ := hq
  subst he
  have hlow : ∀ (k : Nat) l g cap, (c.locs ++ [(⟨0, size, some (b, 1), false⟩ : Loc)])[k]? = some l → l.mp = true → l.place = some (g, cap) → g < w.heap.size := fun k l g cap h1 h2 h3 => by
   by_cases hk : k < c.locs.length
   ·rw [List.getElem?_append_left hk] at h1
    exact (hmo pre).low hI st iv h1 h2 h3
   ·have hk0 : k = c.locs.length := by have := (List.getElem?_eq_some_iff.1 h1).1; simp at this; omega
    subst hk0
    simp at h1
    subst h1
    cases h2
  have hlocs : c2.locs.take (H0 (pre ++ [x])).length = c.locs := by
   apply List.ext_getElem?
   intro k
   rw [hlen]
   by_cases hk : k < H.length
   ·obtain ⟨l, hl⟩ : ∃ l, c.locs[k]? = some l := ⟨_, List.getElem?_eq_getElem (by omega)⟩
    have hkc : k < c.locs.length := by omega
    obtain ⟨l', h1, h2, h3⟩ := s2.locs k l ((List.getElem?_append_left hkc).trans hl)
    obtain ⟨e1, he1, ok1⟩ := i2.entOf h1
    rw [List.getElem?_append_left (by rw [hlen]; exact hk)] at he1
    obtain ⟨e0, he0, hv0, _⟩ := hver _ k e1 he1
    have ok0 := hI.ent k e0 l he0 hl
    have : l' = l := h3 (by rw [ok1.ver, ← hv0, ok0.ver])
    subst this
    rw [List.getElem?_take, if_pos hk, h1, hl]
   ·rw [List.getElem?_take, if_neg hk, List.getElem?_eq_none (by omega)]
  have i3 := i2.dropTail (by rw [hlen]; exact hbel _)
  rw [hlocs] at i3
  have st3 := st2.trans s2
  refine ⟨s2.from iv2 hlow, KeepsProt.of st3.prot i2, c2.prot, i3, ⟨st3.prot, fun k l hl => ⟨l, hl, Nat.le_refl _, fun _ => rfl⟩, st3.os, st3.tape, st3.output, st3.size, st3.blk, fun q hq => .inl hq, st3.newprot⟩⟩
 ·obtain ⟨pr, iv, st⟩ := hi
  exact hq xs D _ W hS hD st iv hK
end
end Go.Abs

/-
 ABS, part RG: a function with a range over a function in its straight part.
-/
namespace Go.Abs
open Go.RowKit
variable {P : Program} {base : Prot}
def seqL : Code → Code
 | .seq x _ => x
 | c => c
def seqR : Code → Code
 | .seq _ y => y
 | c => c
def lseqL : LCode → LCode
 | .seq x _ => x
 | c => c
def lseqR : LCode → LCode
 | .seq _ y => y
 | c => c
def seqs : List Code → Code → Code
 | [], r => r
 | x :: xs, r => .seq x (seqs xs r)
def vcs (T : Tab) : List LCode → (AFr → Heap → Prop) → AFr → Heap → Prop
 | [], K, fr, H => K fr H
 | x :: xs, K, fr, H => vc T x (fun e fr' H' => e = .normal ∧ vcs T xs K fr' H') fr H
section
variable {gl : Nat → AVal} {n : Nat}
theorem seqs_sound {ds : List Deferred} {T : Tab} (hm : P.follows .mixedOrders = true) (hT : TabOk P base T) (hg : GlobOk base gl) {rest : Code} {R : Exit → Act → World → Prop} {K : AFr → Heap → Prop} : ∀ (xs : List Code) (c : Ctx) (H : Heap) (w : World) (fr : AFr) (a : Act),
  Inv base c H w → Sim n c fr a → a.defers = ds → vcs T (xs.map (lowCode P gl n)) K fr H →
  (∀ fr' H' c' w' a', K fr' H' → Step c w c' w' → Inv base c' H' w' → Sim n c' fr' a' → a'.defers = ds → rest.wp P R a' w') → (seqs xs rest).wp P R a w
 | [], c, H, w, fr, a, hI, hs, hd, h, hr => hr _ _ _ _ _ h (.refl _ _) hI hs hd
 | x :: xs, c, H, w, fr, a, hI, hs, hd, h, hr => by
  simp only [List.map_cons, vcs] at h
  refine wp_seq (wp_mono (code_sound hm hT hg x _ c H w fr a hI hs hd h) fun e a' w' hq => ?_)
  obtain ⟨le, fr', H', c', ⟨rfl, q⟩, he, s', i', m', d'⟩ := hq
  subst he
  exact seqs_sound hm hT hg xs c' H' w' fr' a' i' m' d' q fun fr2 H2 c2 w2 a2 k s2 => hr fr2 H2 c2 w2 a2 k (s'.trans s2)
theorem sim_init {args : List AVal} {c : Ctx} {vs : List Value} (hr : RepL c args vs) (hn : args.length ≤ n) : Sim n c (initFr args) { tmps := vs.toArray ++ Array.replicate (n - vs.toArray.size) undef, defers := [] } := by
 have hlen : vs.length = args.length := hr.1
 refine ⟨by simp; omega, fun i hi => ?_⟩
 unfold initFr
 by_cases hia : i < args.length
 ·have hiv : i < vs.length := by omega
  have : (vs.toArray ++ Array.replicate (n - vs.toArray.size) undef).getD i undef = vs[i] := by
   rw [Array.getD_eq_getD_getElem?, Array.getElem?_append_left (by simpa using hiv)]
   simp [hiv]
  rw [this, List.getElem?_eq_getElem hia]
  exact hr.2 i _ _ (by simp [hia]) (by simp [hiv])
 ·have : (vs.toArray ++ Array.replicate (n - vs.toArray.size) undef).getD i undef = undef := by
   rw [Array.getD_eq_getD_getElem?, Array.getElem?_append_right (by simp; omega), Array.getElem?_replicate]
   split <;> rfl
  rw [this, List.getElem?_eq_none (by omega)]
  exact .p _ _ (.tup [] [] rfl (by simp))
theorem results_run {T : Tab} {fn : Func} {rs : List LRes} (hrs : mapO (lowRes P fn.ntmps) fn.results.toList = some rs) {fr : AFr} {H : Heap} {c : Ctx} {w : World} {a : Act} (hI : Inv base c H w) (hs : Sim fn.ntmps c fr a) {r : AVal} (hf : finish T rs fr H = some r) :
  ∃ v, (results fn a.tmps).run P w = .ok v w ∧ Rep c r v := by
 unfold finish at hf
 cases hxs : mapO (resOne T fr H) rs with
 | none => rw [hxs] at hf; cases hf
 | some xs =>
  rw [hxs] at hf
  obtain ⟨us, q1, q2⟩ := lowRes_run hI hs fn.results.toList rs xs hrs hxs
  have hres : (results fn a.tmps).run P w = .ok (if h : us.toArray.size = 1 then us.toArray[0] else .tuple us.toArray) w := by
   unfold results
   have : (fn.results.mapM (resSem a)).run P w = .ok us.toArray w := by
    rw [Array.mapM_eq_mapM_toList]
    simp [q1]
   show ((fn.results.mapM (resSem a)) >>= _).run P w = _
   rw [Sem.run_bind, this]
   rfl
  refine ⟨_, hres, ?_⟩
  have hus := q2.1
  match xs, us, q2, hus, hf with
  | [x], [u], q2, _, hf => cases hf; simpa using q2.2 0 _ u rfl rfl
  | [], [], q2, _, hf => simp [allP] at hf; subst hf; exact .p _ _ (.tup [] [] rfl (by simp))
  | x :: y :: xs, u :: v :: us, q2, _, hf =>
   have : ¬ (u :: v :: us).toArray.size = 1 := by simp
   rw [dif_neg this]
   simp only at hf
   cases hps : allP (x :: y :: xs) with
   | none => rw [hps] at hf; cases hf; exact .tup _ _ q2.1 q2.2
   | some ps =>
    rw [hps] at hf
    cases hf
    rw [allP_some hps] at q2
    refine .p _ _ (.tup ps _ (by have := q2.1; simpa using this) (fun j a b h1 h2 => ?_))
    have := q2.2 j (.p a) b (by simp [h1]) h2
    cases this with
    | p _ _ h => exact h
theorem calls_of_range {T : Tab} (hm : P.follows .mixedOrders = true) (hT : TabOk P base T) (hg : GlobOk base gl) {f : FuncId} {fn : Func} (hf : P.funcs[f]? = some fn) {pre : List Code} {r assign body tail : Code} {id : Nat} {g : Operand} {ps : Array Tmp}
  (hb : fn.body = some (seqs pre ((r.seq (.block id (.rangeFunc g ps assign body))).seq tail))) {rs : List LRes} (hrs : mapO (lowRes P fn.ntmps) fn.results.toList = some rs) {args : List AVal} (hn : args.length ≤ fn.ntmps) {H : Heap} {Q : AVal → Heap → Prop}
  {c : Ctx} {w : World} {vs : List Value} (hI : Inv base c H w) (hr : RepL c args vs) (K : AFr → Heap → Prop)
  (hpre : vcs T (pre.map (lowCode P gl fn.ntmps)) (fun fr' H' => vc T (lowCode P gl fn.ntmps r) (fun e fr2 H2 => e = .normal ∧ K fr2 H2) fr' H') (initFr args) H)
  (hrange : ∀ fr' H' c' w' a', K fr' H' → Step c w c' w' → Inv base c' H' w' → Sim fn.ntmps c' fr' a' → a'.defers = [] →
   (Code.rangeFunc g ps assign body).wp P (fun e a2 w2 => e = .normal ∧ ∃ D fr2 H2 c2, a2.defers = [{ target := .collected D, args := #[] }] ∧ Step c' w' c2 w2 ∧ Inv base c2 H2 w2 ∧ Sim fn.ntmps c2 fr2 a2 ∧
    w2.heap[D]? = some (.deferred (some [])) ∧ w'.heap.size ≤ D ∧ vc T (lowCode P gl fn.ntmps tail) (retQ T rs Q) fr2 H2) a' w') :
  Calls P f vs.toArray w fun e w' => ∃ v r H' c', e = .returned v ∧ Q r H' ∧ Step c w c' w' ∧ Inv base c' H' w' ∧ Rep c' r v := by
 rw [← callsIn_wide (n := 1)]
 refine callsIn_of_wp_marks hf hb trivial ?_ rfl
 rw [wpIn_wide]
 refine seqs_sound hm hT hg pre c H w _ _ hI (sim_init hr hn) rfl hpre fun fr1 H1 c1 w1 a1 h1 s1 i1 m1 d1 => ?_
 refine wp_seq (wp_seq (wp_mono (code_sound hm hT hg r _ c1 H1 w1 fr1 a1 i1 m1 d1 h1) fun e a2 w2 hq => ?_))
 obtain ⟨le, fr2, H2, c2, ⟨rfl, k2⟩, he, s2, i2, m2, d2⟩ := hq
 subst he
 refine wp_block (wp_mono (hrange fr2 H2 c2 w2 a2 k2 (s1.trans s2) i2 m2 d2) fun e a3 w3 hq => ?_)
 obtain ⟨rfl, D, fr3, H3, c3, d3, s3, i3, m3, hD, hDw, h3⟩ := hq
 refine wp_mono (code_sound hm hT hg tail _ c3 H3 w3 fr3 a3 i3 m3 d3 h3) fun e a4 w4 hq => ?_
 obtain ⟨le, fr4, H4, c4, q, he, s4, i4, m4, d4⟩ := hq
 have hD4 : w4.heap[D]? = some (.deferred (some [])) := s4.obj i3 hD rfl (fun _ _ h => by cases h)
 have hgr := grownBy_putObj' w4 D (.deferred none)
 have hrow : ∀ r, some D = some r → ∃ o : Obj, w4.heap[r]? = some o ∧ o.isCells = false := fun r e => by cases e; exact ⟨_, hD4, rfl⟩
 have fin : (match finish T rs fr4 H4 with | some r => Q r H4 | none => False) → LeavesInM Fence.wide 1 P fn a4.tmps (fun e w' => ∃ v r H' c', e = .returned v ∧ Q r H' ∧ Step c w c' w' ∧ Inv base c' H' w' ∧ Rep c' r v) a4.defers .returning w4 := by
  intro hq0
  cases hfin : finish T rs fr4 H4 with
  | none => rw [hfin] at hq0; exact hq0.elim
  | some r =>
   rw [hfin] at hq0
   have i5 := i4.other hgr hrow (fun r k l cap e h1 h2 h3 => by cases e; exact Inv.notMap i4 hD4 (fun _ _ h => by cases h) h1 h2 h3)
   obtain ⟨v, hv, hrep⟩ := results_run hrs i5 m4 hfin
   rw [d4]
   refine ⟨by simp, .inl ⟨_, _, rfl, run_takeDeferred hD4, ?_⟩⟩
   have st : Step c w c4 (w4.putObj D (.deferred none)) := (((s1.trans s2).trans s3).trans s4).other hgr (fun r e => by
    cases e
    exact Nat.le_trans (s1.trans s2).size hDw)
   exact ⟨v, hv, v, r, H4, c4, rfl, hq0, st, i5, hrep⟩
 subst he
 cases le with
 | normal => exact fin q
 | exit id => exact q.elim
 | ret => exact fin q
end
theorem box_assign {l m id : Nat} {o1 o2 : Oper} {p q : Nat} {ty : TypeId} {d : TypeDesc} {i : TypeInfo} {z : Value} {vs : List Value} (h1 : o1.op = .alloc ty) (h1d : o1.dst = some p) (h1g : o1.guard = none) (h2 : o2.op = .store ty (.tmp p) (.tmp q)) (h2d : o2.dst = none) (h2g : o2.guard = none)
  (hd : P.underlying ty = some d) (hi : P.info? ty = some i) (hz : i.zero = some z) (hzl : z.cells.size = sizeT P ty) (hl : vs.length = sizeT P ty) (hone : ∀ v ∈ vs, v.oneCell' = true) {a : Act} (hp : p < a.tmps.size) (hpq : p ≠ q) (hq : a.tmps.getD q undef = .agg vs.toArray)
  {W : World} {K : Act → World → Prop} (hK : K (a.put (some p) (.pointer (some ⟨W.heap.size, 0, none⟩))) (W.alloc (.cells vs.toArray ty))) :
  (Code.region id #[o1, o2] false).wpIn (WR l) m P (Exit.then K (fun _ _ _ => False)) a W := by
 have e1 : (execOp a.eval o1).run P W = .ok (.value (.pointer (some ⟨W.heap.size, 0, none⟩))) (W.alloc (.cells z.cells ty)) := by
  obtain ⟨dst, op, t, pos, after, guard⟩ := o1
  simp only at h1
  subst h1
  simp [execOp, Instr.alloc, zeroValue, typeInfo, hi, hz, newVar, newRow, newObj]
  rfl
 have hnew : (W.alloc (.cells z.cells ty)).heap[W.heap.size]? = some (.cells z.cells ty (0, 0)) := heap_alloc_new _ _
 obtain ⟨a2, ha2⟩ : ∃ a2, a2 = a.put (some p) (.pointer (some ⟨W.heap.size, 0, none⟩)) := ⟨_, rfl⟩
 have g1 : a2.eval (.tmp p) = .pointer (some ⟨W.heap.size, 0, none⟩) := by
  subst ha2
  show (a.tmps.setIfInBounds p _).getD p undef = _
  simp [Array.getD, hp]
 have g2 : a2.eval (.tmp q) = .agg vs.toArray := by
  subst ha2
  show (a.tmps.setIfInBounds p _).getD q undef = _
  rw [← hq]
  simp only [Array.getD_eq_getD_getElem?, Array.getElem?_setIfInBounds_ne hpq]
 have hrun := run_storeCells_at P W.heap.size 0 ty vs 0 z.cells (W.alloc (.cells z.cells ty)) hnew (by omega) hone
 simp only [Nat.add_zero, List.take_zero, List.nil_append, Nat.zero_add] at hrun
 have hdrop : List.drop vs.length z.cells.toList = [] := List.drop_eq_nil_of_le (by simp; omega)
 rw [hdrop, List.append_nil] at hrun
 have hw : (W.alloc (.cells z.cells ty)).setRow W.heap.size vs.toArray = W.alloc (.cells vs.toArray ty) := by
  simp only [World.setRow, World.alloc]
  congr 1
  apply Array.ext_getElem?
  intro j
  rw [Array.getElem?_modify]
  by_cases hj : W.heap.size = j
  ·subst hj
   simp
  ·rw [if_neg hj, Array.getElem?_push, Array.getElem?_push, if_neg (Ne.symm hj), if_neg (Ne.symm hj)]
 rw [hw] at hrun
 have e2 : (execOp a2.eval o2).run P (W.alloc (.cells z.cells ty)) = .ok .skip (W.alloc (.cells vs.toArray ty)) := by
  obtain ⟨dst, op, t, pos, after, guard⟩ := o2
  simp only at h2
  subst h2
  have hvs : (Value.agg vs.toArray).cells.size = sizeT P ty := by simpa [Value.cells] using hl
  have : (Instr.storeAt ty (.pointer (some ⟨W.heap.size, 0, none⟩)) (.agg vs.toArray)).run P (W.alloc (.cells z.cells ty)) = .ok () (W.alloc (.cells vs.toArray ty)) := by
   simp only [Instr.storeAt, Instr.sureAddr, Sem.run_bind, Sem.run_pure, Result.andThen_ok, storeVar, run_sizeT hd, hvs]
   simp only [ne_eq, not_true, if_false]
   exact hrun
  simp [execOp, g1, g2, this]
 refine wpIn_region (wpOps_in (fun i o ho cc e => ?_) (fun ⟨a, w, h⟩ => h) _ _ _ ?_)
 ·match i, ho with
  | 0, ho => simp at ho; subst ho; rw [h1] at e; cases e
  | 1, ho => simp at ho; subst ho; rw [h2] at e; cases e
  | (k + 2), ho => simp at ho
 ·show wpOps P #[o1, o2] _ (List.range 2) a W
  rw [show List.range 2 = [0, 1] from rfl]
  unfold wpOps
  simp only [List.getElem?_toArray, List.getElem?_cons_zero]
  rw [if_pos (by simp [Region.wanted, h1g])]
  left
  unfold Oper.wp
  rw [e1]
  show wpOps P #[o1, o2] _ [1] (a.put o1.dst _) _
  rw [h1d, ← ha2]
  unfold wpOps
  simp only [List.getElem?_toArray, List.getElem?_cons_succ, List.getElem?_cons_zero]
  rw [if_pos (by simp [Region.wanted, h2g])]
  left
  unfold Oper.wp
  rw [e2]
  simp only [Oper.upon, h2d]
  unfold wpOps
  subst ha2
  exact hK
end Go.Abs
