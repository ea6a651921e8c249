/-
  A library of the prover's own, part 4: a walk that sees the memory anew between steps, contracts of functions that call themselves, and of methods with a pointer. No conditions.
-/
import Derived.Test.YtcbagnlidecmkaaGreatDoorAbsTwo
import Derived.Test.YtcbagnlidecmkaaGreatDoorAbsThree
set_option linter.unusedSimpArgs false
set_option linter.unnecessarySimpa false
set_option linter.unusedVariables false
set_option linter.constructorNameAsVariable false

/-
 ABS, part Z: own arrays may be let go on the way: what is never written again becomes a pure value, between two steps of the code.
-/
namespace Go.Abs
variable {P : Program} {base : Prot}
def Seen (base : Prot) (n : Nat) (fr : AFr) (H : Heap) (fr' : AFr) (H' : Heap) : Prop :=
 ∀ (c : Ctx) (w : World) (a : Act), Inv base c H w → Sim n c fr a → ∃ c', Step c w c' w ∧ Inv base c' H' w ∧ Sim n c' fr' a
theorem Seen.refl (n : Nat) (fr : AFr) (H : Heap) : Seen base n fr H fr H := fun c _ _ hI hs => ⟨c, .refl _ _, hI, hs⟩
theorem Seen.trans {n : Nat} {fr fr1 fr2 : AFr} {H H1 H2 : Heap} (h : Seen base n fr H fr1 H1) (k : Seen base n fr1 H1 fr2 H2) : Seen base n fr H fr2 H2 := fun c w a hI hs => by
 obtain ⟨c1, s1, i1, m1⟩ := h c w a hI hs
 obtain ⟨c2, s2, i2, m2⟩ := k c1 w a i1 m1
 exact ⟨c2, s1.trans s2, i2, m2⟩
inductive VZ (base : Prot) (n : Nat) (T : Tab) : LCode → (LExit → AFr → Heap → Prop) → AFr → Heap → Prop
 | base {c : LCode} {Q : LExit → AFr → Heap → Prop} {fr : AFr} {H : Heap} (h : vc T c Q fr H) : VZ base n T c Q fr H
 | seen {c : LCode} {Q : LExit → AFr → Heap → Prop} {fr fr' : AFr} {H H' : Heap} (hs : Seen base n fr H fr' H') (h : VZ base n T c Q fr' H') : VZ base n T c Q fr H
 | seq {a b : LCode} {Q : LExit → AFr → Heap → Prop} {fr : AFr} {H : Heap} (R : AFr → Heap → Prop) (ha : VZ base n T a (thenQ R Q) fr H) (hb : ∀ fr H, R fr H → VZ base n T b Q fr H) : VZ base n T (.seq a b) Q fr H
 | cond {c : LOpd} {a b : LCode} {Q : LExit → AFr → Heap → Prop} {fr : AFr} {H : Heap} (t : Bool) (hc : opd fr c = .p (.bool t)) (ha : t = true → VZ base n T a Q fr H) (hb : t = false → VZ base n T b Q fr H) : VZ base n T (.cond c a b) Q fr H
 | block {id : Nat} {b : LCode} {Q : LExit → AFr → Heap → Prop} {fr : AFr} {H : Heap} (hid : id ≠ 999999) (h : VZ base n T b (blockQ id Q) fr H) : VZ base n T (.block id b) Q fr H
 | loop {b : LCode} {Q : LExit → AFr → Heap → Prop} {fr : AFr} {H : Heap} (I : AFr → Heap → Prop) (μ : AFr → Heap → Nat) (h0 : I fr H) (hr : ∀ fr H, I fr H → VZ base n T b (thenQ (fun fr' H' => I fr' H' ∧ μ fr' H' < μ fr H) Q) fr H) : VZ base n T (.loop b) Q fr H
theorem Seen.frz {n : Nat} {fr : AFr} {H : Heap} (t : Nat) {x : PVal} (hx : resolveV H fuel (fr t) = some x) : Seen base n fr H (upd fr t (.p x)) (freezeL H (touchV H fuel (fr t))) := by
 intro c w a hI hs
 obtain ⟨c2, e2, s2, i2, p2⟩ := hI.freezeL (touchV H fuel (fr t))
 have same := same_freezeL (touchV H fuel (fr t)) H
 refine ⟨c2, s2, i2, hs.1, fun i hi => ?_⟩
 unfold upd
 by_cases e : i = t
 ·subst e
  rw [if_pos rfl]
  have hr := hs.2 i hi
  have hp : PRep c2.prot x (a.tmps.getD i undef) := by
   rw [resolve_same same] at hx
   refine resolve_ok i2 fuel (fr i) _ x (hr.step s2) hx (fun k hk => ?_)
   rw [← touch_same same] at hk
   exact (p2 k hk).step rfl (fun _ _ _ h => h) (fun e he => freezeL_get _ H k e he)
    (fun e l g cap a b d o ho => hI.cell_at a (by rw [← e2]; exact b) d o ho)
  exact .p _ _ hp
 ·rw [if_neg e]
  exact (hs.2 i hi).step s2
theorem Seen.junk {n : Nat} {fr fr' : AFr} {H : Heap} (h : ∀ i, fr' i = fr i ∨ fr' i = .junk) : Seen base n fr H fr' H := by
 intro c w a hI hs
 refine ⟨c, .refl _ _, hI, hs.1, fun i hi => ?_⟩
 rcases h i with e | e
 ·rw [e]; exact hs.2 i hi
 ·rw [e]; exact .junk _
theorem Inv.reelem {c : Ctx} {H : Heap} {w : World} (hI : Inv base c H w) {k : Nat} {e : Ent} (hk : H[k]? = some e) {es : List AVal} (hl : es.length = e.elems.length)
  (h1 : ∀ x ∈ es, x.cells.length = e.size ∧ ∀ y ∈ x.cells, y.isCell = true)
  (h2 : ∀ (i : Nat) x x' (j : Nat) y y', e.elems[i]? = some x → es[i]? = some x' → x.cells[j]? = some y → x'.cells[j]? = some y' → ∀ v, Rep c y v → Rep c y' v) : Inv base c (H.set k { e with elems := es }) w := by
 have hkl : k < H.length := by
  rcases Nat.lt_or_ge k H.length with h | h
  ·exact h
  ·rw [List.getElem?_eq_none h] at hk; cases hk
 refine ⟨hI.base, by rw [List.length_set]; exact hI.len, hI.prot, fun k' e' l hH hL => ?_, hI.inj⟩
 rw [List.getElem?_set] at hH
 split at hH
 ·rename_i ek
  subst ek
  cases hH
  have ok := hI.ent k e l hk hL
  refine ⟨ok.ver, ok.size, ok.pos, h1, fun hn => ?_, ok.typed, fun g cap hg => ?_⟩
  ·have := ok.nowhere hn
   rw [this] at hl
   exact List.length_eq_zero_iff.1 hl
  ·obtain ⟨cur, ty, a1, a2, a3, a4, a5, a6⟩ := ok.there g cap hg
   refine ⟨cur, ty, a1, a2, a3, by dsimp only; omega, fun i x' j y' hx hy => ?_, fun o v ho => by dsimp only; rw [hl]; exact a6 o v ho⟩
   have hi : i < e.elems.length := by
    rcases Nat.lt_or_ge i es.length with h | h
    ·omega
    ·rw [List.getElem?_eq_none h] at hx; cases hx
   have hx0 : e.elems[i]? = some e.elems[i] := List.getElem?_eq_getElem hi
   have c0 := (ok.cells e.elems[i] (List.getElem_mem hi)).1
   have c1 := (h1 x' (List.mem_of_getElem? hx)).1
   have hj : j < e.elems[i].cells.length := by
    rcases Nat.lt_or_ge j x'.cells.length with h | h
    ·omega
    ·rw [List.getElem?_eq_none h] at hy; cases hy
   obtain ⟨v, b1, b2⟩ := a5 i _ j _ hx0 (List.getElem?_eq_getElem hj)
   exact ⟨v, b1, h2 i _ x' j _ y' hx0 hx (List.getElem?_eq_getElem hj) hy v b2⟩
 ·exact hI.ent k' e' l hH hL
theorem Seen.frzE {n : Nat} {fr : AFr} {H : Heap} (k i : Nat) {e : Ent} {v : AVal} {x : PVal} (hx : resolveV H fuel v = some x) (hk : (freezeL H (touchV H fuel v))[k]? = some e) (hv : e.elems[i]? = some v) :
  Seen base n fr H fr ((freezeL H (touchV H fuel v)).set k { e with elems := e.elems.set i (.p x) }) := by
 intro c w a hI hs
 obtain ⟨c2, e2, s2, i2, p2⟩ := hI.freezeL (touchV H fuel v)
 have same := same_freezeL (touchV H fuel v) H
 have hkl : c2.locs[k]? ≠ none := fun h => by
  have h1 := List.getElem?_eq_none_iff.1 h
  rw [i2.len] at h1
  rw [List.getElem?_eq_none h1] at hk
  cases hk
 obtain ⟨l, hl⟩ : ∃ l, c2.locs[k]? = some l := by
  cases h : c2.locs[k]? with
  | none => exact absurd h hkl
  | some l => exact ⟨l, rfl⟩
 have ok := i2.ent k e l hk hl
 have hprom : ∀ k' ∈ touchV (freezeL H (touchV H fuel v)) fuel v, Promised c2 (freezeL H (touchV H fuel v)) w k' := fun k' hk' => by
  rw [← touch_same same] at hk'
  exact (p2 k' hk').step rfl (fun _ _ _ h => h) (fun e he => freezeL_get _ H k' e he)
   (fun e l g cap a b d o ho => hI.cell_at a (by rw [← e2]; exact b) d o ho)
 have hcv := ok.cells v (List.mem_of_getElem? hv)
 have hx' := hx
 rw [resolve_same same] at hx'
 obtain ⟨q1, q2, q3⟩ := resolve_elem (fun m _ => resolve_ok i2 m) hx' hcv.2 hprom
 refine ⟨c2, s2, i2.reelem hk (by rw [List.length_set]) (fun y hy => ?_) (fun i' y y' j z z' hy hy' hz hz' u hu => ?_), ⟨hs.1, fun i hi => (hs.2 i hi).step s2⟩⟩
 ·rcases List.mem_or_eq_of_mem_set hy with h | h
  ·exact ok.cells y h
  ·subst h
   refine ⟨by show (x.cells.map AVal.p).length = _; rw [List.length_map, q1]; exact hcv.1, fun z hz => ?_⟩
   obtain ⟨z0, hz0, rfl⟩ := List.mem_map.1 (show z ∈ x.cells.map AVal.p from hz)
   exact q2 z0 hz0
 ·rw [List.getElem?_set] at hy'
  split at hy'
  ·rename_i hi
   subst hi
   split at hy'
   ·cases hy'
    rw [hv] at hy
    cases hy
    have hz2 : (x.cells.map AVal.p)[j]? = some z' := hz'
    rw [List.getElem?_map, Option.map_eq_some_iff] at hz2
    obtain ⟨z0, hz0, rfl⟩ := hz2
    obtain ⟨y0, b1, b2⟩ := q3 j z0 hz0
    rw [hz] at b1
    cases b1
    exact .p _ _ (b2 u hu)
   ·cases hy'
  ·rw [hy] at hy'
   cases hy'
   rw [hz] at hz'
   cases hz'
   exact hu
section
variable {gl : Nat → AVal} {n : Nat}
end
end Go.Abs

/-
 ABS, part ZR: contracts of functions that call themselves: by a measure of the arguments.
-/
namespace Go.Abs
variable {P : Program} {base : Prot}
theorem FnOk.union {f : FuncId} {s : Nat → List PVal → Option PVal} {s' : List PVal → Option PVal} (h : ∀ m, FnOk P base f (pureS (s m))) (hs : ∀ args x, s' args = some x → ∃ m, s m args = some x) : FnOk P base f (pureS s') := by
 refine ⟨(h 0).1, fun args r E hx => ?_⟩
 unfold pureS at hx
 cases hy : s' args with
 | none => rw [hy] at hx; cases hx
 | some x =>
  rw [hy] at hx
  obtain ⟨m, hm⟩ := hs args x hy
  refine (h m).2 args r E ?_
  unfold pureS
  rw [hm]
  exact hx
theorem FnOk.steps {f : FuncId} {s : Nat → List PVal → Option PVal} (h0 : FnOk P base f (pureS (s 0))) (h : ∀ m, FnOk P base f (pureS (s m)) → FnOk P base f (pureS (s (m + 1)))) : ∀ m, FnOk P base f (pureS (s m))
 | 0 => h0
 | m + 1 => h m (FnOk.steps h0 h m)
end Go.Abs

/-
 ABS, part ZM: functions that write into the caller's own arrays, whose memory is seen anew at the end: what was made on the way becomes pure, or is forgotten.
-/
namespace Go.Abs
variable {P : Program} {base : Prot}
def HSeen (base : Prot) (H H' : Heap) : Prop := ∀ (c : Ctx) (w : World), Inv base c H w → ∃ c', Step c w c' w ∧ Inv base c' H' w
theorem HSeen.refl (H : Heap) : HSeen base H H := fun c _ hI => ⟨c, .refl _ _, hI⟩
theorem HSeen.trans {H H1 H2 : Heap} (h : HSeen base H H1) (k : HSeen base H1 H2) : HSeen base H H2 := fun c w hI => by
 obtain ⟨c1, s1, i1⟩ := h c w hI
 obtain ⟨c2, s2, i2⟩ := k c1 w i1
 exact ⟨c2, s1.trans s2, i2⟩
theorem HSeen.of_seen {H H' : Heap} {fr fr' : AFr} (h : Seen base 0 fr H fr' H') : HSeen base H H' := fun c w hI => by
 obtain ⟨c', s, i, _⟩ := h c w { tmps := #[], defers := [] } hI ⟨rfl, fun i hi => absurd hi (Nat.not_lt_zero _)⟩
 exact ⟨c', s, i⟩
def ownZ (base : Prot) (T : Tab) (rs : List LRes) (r : AVal) (H' : Heap) : LExit → AFr → Heap → Prop
 | .exit _, _, _ => False
 | _, fr, H => finish T rs fr H = some r ∧ ∃ E, HSeen base H (H' ++ E)
theorem own_of_vcZ {gl : Nat → AVal} {T : Tab} (hm : P.follows .mixedOrders = true) (hT : TabOk P base T) (hg : GlobOk base gl) {f : FuncId} {lf : LFunc} (hl : lowFunc P gl f = some lf) {m : List AVal → Heap → Option (AVal × Heap)}
  (h : ∀ args H r H', m args H = some (r, H') → (∀ x ∈ args, ∀ y, x = .p y → Fits y) → BelowH H.length H → args.length ≤ lf.n ∧ H'.length = H.length ∧ BelowH H.length H' ∧ Below H.length r ∧ vc T lf.body (ownZ base T lf.results r H') (initFr args) H) : MuOk P base f m := by
 refine ⟨goodFn_of_low hl, fun args H r H' hs c w vs hI hr => ?_⟩
 have hfit : ∀ x ∈ args, ∀ y, x = .p y → Fits y := fun x hx y hy => by
  subst hy
  obtain ⟨j, hj, hxj⟩ := List.getElem_of_mem hx
  have hlen := hr.1
  have := hr.2 j (.p y) (vs[j]'(by omega)) (by rw [List.getElem?_eq_getElem hj, hxj]) (by simp [hlen, hj])
  cases this with
  | p _ _ hp => exact ⟨_, _, hp⟩
 obtain ⟨hn, hlen, hb, hbr, hv⟩ := h args H r H' hs hfit hI.belowH
 have eQ : ownZ base T lf.results r H' = retQ T lf.results fun r2 H2 => r2 = r ∧ ∃ E, HSeen base H2 (H' ++ E) := by
  funext e fr H2
  cases e <;> simp only [ownZ, retQ] <;> (cases finish T lf.results fr H2 <;> simp)
 rw [eQ] at hv
 refine (calls_of_vc hm hT hg hl hn hI hr (fun _ => hv)).mono fun e w' ⟨v, r2, H2, c1, he, hq, st1, i1, rp1⟩ => ?_
 obtain ⟨rfl, E, hse⟩ := hq
 obtain ⟨c', s2, i'⟩ := hse c1 w' i1
 have st := st1.trans s2
 have rp := rp1.step s2
 rw [← hlen] at hb hbr
 refine ⟨v, ⟨c'.locs.take H'.length, c'.prot⟩, he, ⟨st.prot, fun k l hl => ?_, st.os, st.tape, st.output, st.size, st.blk, fun b hb => ?_, st.newprot⟩, i'.dropTail hb, rp.drop _ hbr⟩
 ·obtain ⟨l', h1, h2, h3⟩ := st.locs k l hl
  have hk : k < H'.length := by rw [hlen, ← hI.len]; exact (List.getElem?_eq_some_iff.1 hl).1
  exact ⟨l', by simp [hk, h1], h2, h3⟩
 ·obtain ⟨k, l, cap, h1, h2⟩ := hb
  rw [List.getElem?_take] at h1
  split at h1
  ·exact st.newloc b ⟨k, l, cap, h1, h2⟩
  ·cases h1
theorem freeze1_far (H : Heap) {k j : Nat} (h : j ≠ k) : (freeze1 H k)[j]? = H[j]? := by
 unfold freeze1
 split
 ·rw [List.getElem?_set_ne (Ne.symm h)]
 ·rfl
theorem freezeL_far : ∀ (L : List Nat) (H : Heap) {j : Nat}, j ∉ L → (freezeL H L)[j]? = H[j]?
 | [], _, _, _ => rfl
 | k :: L, H, j, h => by
  have h1 : j ≠ k := fun e => h (by simp [e])
  have h2 : j ∉ L := fun e => h (by simp [e])
  show (freezeL (freeze1 H k) L)[j]? = _
  rw [freezeL_far L _ h2, freeze1_far H h1]
theorem heap_split {H0 H : Heap} (h : ∀ j, j < H0.length → H[j]? = H0[j]?) : ∃ E, H = H0 ++ E := by
 refine ⟨H.drop H0.length, ?_⟩
 have : H.take H0.length = H0 := by
  apply List.ext_getElem?
  intro j
  rw [List.getElem?_take]
  split
  ·exact h j (by assumption)
  ·rw [List.getElem?_eq_none (by omega)]
 conv => lhs; rw [← List.take_append_drop H0.length H, this]
theorem HSeen.one {H0 H : Heap} {k : Nat} {sz ver : Nat} {ty : TypeId} {v : AVal} {x : PVal} (hk0 : k < H0.length) (hk : H[k]? = some ⟨sz, ver, false, [v], ty⟩) (hx : resolveV H fuel v = some x)
  (hpre : ∀ j, j < H0.length → j ≠ k → H[j]? = H0[j]?) (ht : ∀ l ∈ touchV H fuel v, H0.length ≤ l) : ∃ E, HSeen base H (H0.set k ⟨sz, ver, false, [.p x], ty⟩ ++ E) := by
 have hfar : ∀ j, j < H0.length → (freezeL H (touchV H fuel v))[j]? = H[j]? := fun j hj => freezeL_far _ _ fun hm => by have := ht j hm; omega
 have hk' : (freezeL H (touchV H fuel v))[k]? = some ⟨sz, ver, false, [v], ty⟩ := by rw [hfar k hk0, hk]
 have hs := HSeen.of_seen (Seen.frzE (base := base) (n := 0) (fr := initFr []) k 0 hx hk' rfl)
 obtain ⟨E, hE⟩ := heap_split (H0 := H0.set k ⟨sz, ver, false, [.p x], ty⟩) (H := (freezeL H (touchV H fuel v)).set k ⟨sz, ver, false, [.p x], ty⟩) (fun j hj => by
  rw [List.length_set] at hj
  have hkl : k < (freezeL H (touchV H fuel v)).length := (List.getElem?_eq_some_iff.1 hk').1
  by_cases e : j = k
  ·subst e
   rw [List.getElem?_set_self hkl, List.getElem?_set_self hk0]
  ·rw [List.getElem?_set_ne (Ne.symm e), List.getElem?_set_ne (Ne.symm e), hfar j hj, hpre j hj e])
 refine ⟨E, ?_⟩
 rw [← hE]
 exact hs
end Go.Abs
