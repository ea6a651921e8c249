/-
  UfWays answers true on all values. No conditions.
-/
import Derived.Test.YtgbjjikaenlkmaaGreatUfG
set_option linter.unusedSimpArgs false
set_option linter.unnecessarySimpa false
set_option linter.unusedVariables false
set_option linter.constructorNameAsVariable false

/-
 uf: the walks of the law of ways.
-/
namespace Go.Proofs.YtgbjjikaenlkmaaGreat
open Go Go.Abs Go.Limbs
variable {base : Prot}
set_option maxRecDepth 20000
attribute [local irreducible] vc
attribute [local simp] pureS touchV freezeL fuel shiftV u64 au
theorem rem_mod {k n : Int} (hn : 0 < n) : Int.tmod (Int.tmod k n + n) n = k % n := by
 have h1 := Int.tmod_lt_of_pos k hn
 have h2 : -n < Int.tmod k n := by
  rw [Int.tmod_eq_emod]
  have := Int.emod_nonneg k (show n ≠ 0 by omega)
  have := Int.emod_lt_of_pos k hn
  split <;> omega
 rw [Int.tmod_eq_emod_of_nonneg (by omega), Int.add_emod_right]
 rw [Int.tmod_eq_emod]
 split
 ·simp
 ·rw [Int.natAbs_of_nonneg (by omega), Int.sub_emod_right, Int.emod_emod_of_dvd _ (Int.dvd_refl n)]
def sRoundN : List PVal → Option PVal
 | [.int .i64 k, .int .i64 n] => if 0 < n ∧ n ≤ 1000000 then some (.int .i64 (k % n)) else none
 | _ => none
theorem sRoundN_at {k n : Int} (h : 0 < n) (h' : n ≤ 1000000) : sRoundN [.int .i64 k, .int .i64 n] = some (.int .i64 (k % n)) := if_pos ⟨h, h'⟩
theorem roundN_ok : FnOk Tryz.prog base 7 (pureS sRoundN) := by
 refine pure_of_vc hmix Tab.none_ok globNone low7 fun args z hs hf => ?_
 unfold sRoundN at hs
 split at hs
 case h_2 => cases hs
 rename_i k n
 split at hs
 case isFalse => cases hs
 rename_i h
 cases hs
 refine ⟨by simp [lf7], ?_⟩
 have h0 : (n == 0) = false := by simp; omega
 have h0' : n ≠ 0 := by omega
 have e1 : IntKind.i64.wrap (Int.tmod k n + n) = Int.tmod k n + n := by
  have h1 := Int.tmod_lt_of_pos k h.1
  have h2 : -n < Int.tmod k n := by
   have := Int.emod_nonneg k h0'
   have := Int.emod_lt_of_pos k h.1
   rw [Int.tmod_eq_emod]
   split <;> omega
  exact IntWalk.i64_in _ (by omega)
 have e2 := rem_mod (k := k) h.1
 simp [lf7, h0, h0', e1, e2]
def Tw24 : Tab := (((((Tab.none.with 7 (pureS sRoundN)).with 6 (pureS sAwk)).with 17 (pureS (sp3 cPr.lst cI cI wayP))).with 18 (pureS (sp2 cI cVa.lst freeP))).with 8 (pureS (sp2 cI cI valP))).with 13 (pureS (sp2 cVa cVa sameVP))
theorem Tw24_ok : TabOk Tryz.prog base Tw24 := Tab.with_ok (Tab.with_ok (Tab.with_ok (Tab.with_ok (Tab.with_ok (Tab.with_ok Tab.none_ok roundN_ok) awake24_ok) merge_ok) free_ok) value_ok') rsamev_ok
theorem Tw24_mu (f : FuncId) (a : List AVal) (H : Heap) : Tw24.mu f a H = none := (rfl)
theorem Tw24_fns : Tw24.fn 7 = (pureS sRoundN) ∧ Tw24.fn 6 = (pureS sAwk) ∧ Tw24.fn 17 = (pureS (sp3 cPr.lst cI cI wayP)) ∧ Tw24.fn 18 = (pureS (sp2 cI cVa.lst freeP)) ∧ Tw24.fn 8 = (pureS (sp2 cI cI valP)) ∧ Tw24.fn 13 = (pureS (sp2 cVa cVa sameVP)) := ⟨rfl, rfl, rfl, rfl, rfl, rfl⟩
theorem keepZ (G Z : Heap) : (∀ k, k < G.length → (G ++ Z)[k]? = G[k]?) = True := eq_true fun _ hk => List.getElem?_append_left hk
theorem keepZZ (G Z Z' : Heap) : (∀ k, k < G.length → (G ++ Z)[k]? = (G ++ Z')[k]?) = True := eq_true fun _ hk => by rw [List.getElem?_append_left hk, List.getElem?_append_left hk]
def rp7 (p : Int × Int) : Int × Int := (p.1 % 7, p.2 % 7)
def cur7 (ps : Edges) (i : Nat) : Edges := (ps.take i).map rp7 ++ ps.drop i
theorem cur7_len (ps : Edges) {i : Nat} (h : i ≤ ps.length) : (cur7 ps i).length = ps.length := by
 unfold cur7
 simp
 omega
theorem cur7_succ {ps : Edges} {i : Nat} {p : Int × Int} (h : ps[i]? = some p) : (cur7 ps i).take i ++ [rp7 p] ++ (cur7 ps i).drop (i + 1) = cur7 ps (i + 1) ∧ (cur7 ps i)[i]? = some p := by
 obtain ⟨hi, hp⟩ := List.getElem?_eq_some_iff.1 h
 have hl : ((ps.take i).map rp7).length = i := by simp; omega
 have hd : ps.drop i = p :: ps.drop (i + 1) := by rw [List.drop_eq_getElem_cons hi, hp]
 unfold cur7
 refine ⟨?_, ?_⟩
 ·rw [List.take_left' hl, List.take_add_one, h, hd, List.map_append]
  rw [List.drop_append, hl, List.drop_of_length_le (by rw [hl]; omega), show i + 1 - i = 1 by omega]
  simp
 ·rw [List.getElem?_append_right (by omega), hl, hd]
  simp
def VP (G : Heap) (v : AVal) (L : Edges) : Prop := v = .p (.lst (L.map cPr.enc)) ∨ ∃ k w fz, v = .own k 0 L.length w ∧ G[k]? = some ⟨2, w, fz, (L.map cPr.enc).map .p, 67⟩
theorem b0_walk24 {Q : LExit → AFr → Heap → Prop} {fr : AFr} {ps : Edges} (hlen : ps.length ≤ 12) (f0 : fr 0 = .p (.lst (ps.map cPr.enc))) (f9 : fr 9 = .p (.int .i64 0))
  (hQ : ∀ fr' G', (fr' 1 = fr 1 ∧ fr' 2 = fr 2 ∧ fr' 3 = fr 3) → VP G' (fr' 0) (ps.map rp7) → Q .normal fr' G') : vc Tw24 lf5_B0 Q fr [] := by
 simp only [lf5_B0, vc_block]
 refine loop_ind (fun fr' G' => ∃ (i : Nat), i ≤ ps.length ∧ (fr' 1 = fr 1 ∧ fr' 2 = fr 2 ∧ fr' 3 = fr 3) ∧ VP G' (fr' 0) (cur7 ps i) ∧ fr' 9 = .p (.int .i64 i)) (fun fr' _ => ps.length - ivar (fr' 9)) ⟨0, by omega, ⟨rfl, rfl, rfl⟩, .inl (by simp [f0, cur7]), f9⟩ ?_
 rintro fr1 G1 ⟨i, hi, ⟨z1, z2, z3⟩, hv, k9⟩
 have hcl := cur7_len ps hi
 by_cases h : i < ps.length
 ·obtain ⟨p, hp⟩ : ∃ p, ps[i]? = some p := ⟨_, List.getElem?_eq_getElem h⟩
  obtain ⟨hc1, hc2⟩ := cur7_succ hp
  have hw := wrap_succ (i := i) (by omega)
  obtain ⟨pa, pb⟩ := p
  have hpe : cPr.enc (pa, pb) = .agg [.int .i64 pa, .int .i64 pb] := rfl
  have hre : cPr.enc (rp7 (pa, pb)) = .agg [.int .i64 (pa % 7), .int .i64 (pb % 7)] := rfl
  have hra := sRoundN_at (k := pa) (n := 7) (by omega) (by omega)
  have hrb := sRoundN_at (k := pb) (n := 7) (by omega) (by omega)
  have hml : ((cur7 ps i).map cPr.enc).length = ps.length := by rw [List.length_map, hcl]
  have hmg : ((cur7 ps i).map cPr.enc)[i]? = some (PVal.agg [.int .i64 pa, .int .i64 pb]) := by rw [List.getElem?_map, hc2]; rfl
  have hsz : sizeOk 2 ((cur7 ps i).map cPr.enc) = true := by
   unfold sizeOk
   rw [List.all_map, List.all_eq_true]
   rintro ⟨x, y⟩ -
   rfl
  have hnew : (cur7 ps (i + 1)).map cPr.enc = ((cur7 ps i).map cPr.enc).take i ++ [PVal.agg [.int .i64 (pa % 7), .int .i64 (pb % 7)]] ++ ((cur7 ps i).map cPr.enc).drop (i + 1) := by
   rw [← hc1, List.map_append, List.map_append, List.map_take, List.map_drop]
   rfl
  have hcl' := cur7_len ps (i := i + 1) (by omega)
  have hcc : ∀ y ∈ ((cur7 ps i).map cPr.enc).map AVal.p, (y.cells.length == 2 && y.cells.all AVal.isCell) = true := fun y hy => by
   rw [List.map_map] at hy
   obtain ⟨⟨x1, x2⟩, -, rfl⟩ := List.mem_map.1 hy
   rfl
  obtain ⟨C, hC⟩ : ∃ t, t = (cur7 ps i).map cPr.enc := ⟨_, rfl⟩
  rw [← hC] at hml hmg hsz hnew hcc
  obtain ⟨X, hX⟩ : ∃ t, t = AVal.p (.agg [.int .i64 (pa % 7), .int .i64 (pb % 7)]) := ⟨_, rfl⟩
  have hlm : (C.map AVal.p).length = ps.length := by rw [List.length_map, hml]
  have hlt : (List.take i (C.map AVal.p)).length = i := by rw [List.length_take, hlm]; omega
  have hmx : maxLen = 9223372036854775807 := rfl
  have a1 : appV 2 16 67 (.own G1.length 0 0 0) (List.take i (C.map AVal.p)) (G1 ++ [⟨2, 0, false, [], 67⟩]) = some (.own G1.length 0 i 1, G1 ++ [⟨2, 1, false, List.take i (C.map AVal.p), 67⟩]) := by
   rw [appV_own (size := 2) (ver := 0) (n := 0) (fz := false) (els := ([] : List AVal)) (ty := 67) (by rw [getT0]; rfl) (List.all_eq_true.2 fun y hy => hcc y (List.mem_of_mem_take hy)) (by omega) rfl (by rw [hlt]; simp; omega) (by rw [hlt, hmx]; simp; omega), setT0, hlt]
   simp
  have a2 : appV 2 16 67 (.own G1.length 0 i 1) [X] (G1 ++ [⟨2, 1, false, List.take i (C.map AVal.p), 67⟩, ⟨2, 0, false, [X], 67⟩]) = some (.own G1.length 0 (i + 1) 2, G1 ++ [⟨2, 2, false, List.take i (C.map AVal.p) ++ [X], 67⟩, ⟨2, 0, false, [X], 67⟩]) := by
   rw [appV_own (size := 2) (ver := 1) (fz := false) (els := List.take i (C.map AVal.p)) (by rw [getT0]; rfl) (by subst hX; rfl) (by omega) hlt.symm (by rw [hlt]; simp; omega) (by rw [hlt, hmx]; simp; omega), setT0]
   rfl
  have hld : (List.drop (i + 1) (C.map AVal.p)).length = ps.length - (i + 1) := by rw [List.length_drop, hlm]
  have hlt2 : (List.take i (C.map AVal.p) ++ [X]).length = i + 1 := by rw [List.length_append, hlt]; rfl
  have a3 : appV 2 16 67 (.own G1.length 0 (i + 1) 2) (List.drop (i + 1) (C.map AVal.p)) (G1 ++ [⟨2, 2, false, List.take i (C.map AVal.p) ++ [X], 67⟩, ⟨2, 0, false, [X], 67⟩]) = some (.own G1.length 0 ps.length 3, G1 ++ [⟨2, 3, false, List.take i (C.map AVal.p) ++ [X] ++ List.drop (i + 1) (C.map AVal.p), 67⟩, ⟨2, 0, false, [X], 67⟩]) := by
   rw [appV_own (size := 2) (ver := 2) (fz := false) (els := List.take i (C.map AVal.p) ++ [X]) (by rw [getT0]; rfl) (List.all_eq_true.2 fun y hy => hcc y (List.mem_of_mem_drop hy)) (by omega) hlt2.symm (by rw [hlt2, hld]; omega) (by rw [hlt2, hld, hmx]; omega), setT0, hld]
   have : i + 1 + (ps.length - (i + 1)) = ps.length := by omega
   rw [this]
   rfl
  have hi1 : i + 1 ≤ ps.length := h
  have hlo : (0 : Int) ≤ (i : Int) + 1 := by omega
  have hhi : (i : Int) + 1 ≤ (ps.length : Int) := by omega
  have htn : ((ps.length : Int) - ((i : Int) + 1)).toNat = ps.length - (i + 1) := by omega
  have hle2 : i + 1 + (ps.length - (i + 1)) ≤ ps.length := by omega
  have htk : List.take ps.length C = C := List.take_of_length_le (by omega)
  have htk2 : List.take (ps.length - (i + 1)) (List.drop (i + 1) (C.map AVal.p)) = List.drop (i + 1) (C.map AVal.p) := List.take_of_length_le (by rw [List.length_drop, List.length_map, hml]; omega)
  have hVP : ∀ G' k w, G'[k]? = some ⟨2, w, false, (C.take i ++ [PVal.agg [.int .i64 (pa % 7), .int .i64 (pb % 7)]] ++ C.drop (i + 1)).map .p, 67⟩ → VP G' (.own k 0 ps.length w) (cur7 ps (i + 1)) := fun G' k w hg => .inr ⟨k, w, false, by rw [hcl'], by rw [hnew]; exact hg⟩
  subst hX
  rcases hv with k0 | ⟨kk, w, fz, k0, kg⟩
  ·rw [← hC] at k0
   simp [k0, k9, h, hml, getT, getT0, setT, setT0, fillS, fillA, -getElem?_pos, List.getElem?_cons_zero, List.getElem?_cons_succ]
   rw [vc_regionW]
   refine ⟨[], ?_⟩
   simp [-appV, k0, k9, h, hi, hi1, hlo, hhi, htn, hle2, htk, htk2, hml, hmg, hsz, hra, hrb, hw, a1, a2, a3, keepZ, keepZZ, Tw24_mu, Tw24_fns, getT, getT0, setT, setT0, fillS, fillA, -getElem?_pos, List.getElem?_cons_zero, List.getElem?_cons_succ]
   have hm : ps.length - (i + 1) < ps.length - i := by omega
   exact ⟨⟨i + 1, hi1, ⟨z1, z2, z3⟩, hVP _ _ _ (by rw [getT0]; simp), rfl⟩, by simpa [ivar] using hm⟩
  ·rw [← hC] at kg
   rw [hcl] at k0
   have hkl := (List.getElem?_eq_some_iff.1 kg).1
   have hA : ∀ Z, (G1 ++ Z)[kk]? = some ⟨2, w, fz, C.map .p, 67⟩ := fun Z => by rw [List.getElem?_append_left hkl]; exact kg
   simp [k0, kg, hA, hkl, hlm, k9, h, hml, getT, getT0, setT, setT0, fillS, fillA, -getElem?_pos, List.getElem?_cons_zero, List.getElem?_cons_succ]
   rw [vc_regionW]
   refine ⟨[], ?_⟩
   simp [-appV, k0, kg, hA, hkl, hlm, k9, h, hi, hi1, hlo, hhi, htn, hle2, htk, htk2, hml, hmg, hsz, hra, hrb, hw, a1, a2, a3, keepZ, keepZZ, Tw24_mu, Tw24_fns, getT, getT0, setT, setT0, fillS, fillA, -getElem?_pos, List.getElem?_cons_zero, List.getElem?_cons_succ]
   have hm : ps.length - (i + 1) < ps.length - i := by omega
   exact ⟨⟨i + 1, hi1, ⟨z1, z2, z3⟩, hVP _ _ _ (by rw [getT0]; simp), rfl⟩, by simpa [ivar] using hm⟩
 ·have hil : i = ps.length := by omega
  subst hil
  have hfin : cur7 ps ps.length = ps.map rp7 := by unfold cur7; simp
  rw [hfin] at hv
  rcases hv with k0 | ⟨kk, w, fz, k0, kg⟩
  ·simp [k0, k9]
   exact hQ _ _ ⟨by simp [z1], by simp [z2], by simp [z3]⟩ (.inl (by simp [k0]))
  ·simp [k0, k9, kg]
   exact hQ _ _ ⟨by simp [z1], by simp [z2], by simp [z3]⟩ (.inr ⟨kk, w, fz, by simp [k0], kg⟩)
end Go.Proofs.YtgbjjikaenlkmaaGreat

/-
 uf: the law of ways, its table of distances.
-/
namespace Go.Proofs.YtgbjjikaenlkmaaGreat
open Go Go.Abs Go.Limbs
variable {base : Prot}
set_option maxRecDepth 20000
attribute [local irreducible] vc
attribute [local simp] pureS touchV freezeL fuel shiftV u64 au
def iL (l : List Int) : List PVal := l.map fun n => PVal.int .i64 n
def farE (l : List Int) : Ent := ⟨7, 0, false, [.p (.agg (iL l))], 70⟩
theorem iL_len (l : List Int) : (iL l).length = l.length := List.length_map ..
theorem iL_at {l : List Int} {a : Int} (hl : l.length = 7) (ha : Sev a) : List.take 1 (List.drop a.toNat ((iL l).map AVal.p)) = [.p (.int .i64 (FL l a))] := by
 have h1 : a.toNat < l.length := by obtain ⟨h1, h2⟩ := ha; omega
 unfold iL FL
 rw [List.map_map, List.drop_eq_getElem_cons (by simpa using h1), List.getD_eq_getElem?_getD, List.getElem?_eq_getElem h1]
 simp
theorem iL_put {l : List Int} {a v : Int} (hl : l.length = 7) (ha : Sev a) : putCells (.p (.agg (iL l))) (.p (.int .i64 v)) a.toNat 1 = some (.p (.agg (iL (l.set a.toNat v)))) := by
 have h1 : a.toNat < l.length := by obtain ⟨h1, h2⟩ := ha; omega
 have h2 : ((AVal.p (.int .i64 v)).cells.length = 1 ∧ (AVal.p (.int .i64 v)).cells.all AVal.isCell = true) := ⟨rfl, rfl⟩
 unfold putCells
 rw [if_pos h2]
 have h3 : (AVal.p (.agg (iL l))).isAgg = true := rfl
 rw [if_pos h3]
 have h4 : (AVal.p (.agg (iL l))).cells = (iL l).map AVal.p := rfl
 rw [h4, if_pos (by rw [List.length_map, iL_len]; omega)]
 have h5 : List.take a.toNat ((iL l).map AVal.p) ++ (AVal.p (.int .i64 v)).cells ++ List.drop (a.toNat + 1) ((iL l).map AVal.p) = (iL (l.set a.toNat v)).map AVal.p := by
  unfold iL
  rw [List.set_eq_take_append_cons_drop, if_pos h1, ← List.map_take, ← List.map_drop]
  simp [AVal.cells, PVal.cells]
 rw [h5]
 unfold mkAgg
 rw [allP_map]
theorem b1_walk24 {Q : LExit → AFr → Heap → Prop} {fr : AFr} {G : Heap} {ps : Edges} {l : List Int} {kf : Nat} (hlen : ps.length ≤ 12) (hs : Small ps) (hl : l.length = 7) (hv : VP G (fr 0) ps) (hkf : ∀ k o n w, fr 0 = .own k o n w → k ≠ kf)
  (f12 : fr 12 = .optr kf 0 0 0) (gf : G[kf]? = some (farE l)) (f14 : fr 14 = .p (.int .i64 0))
  (hQ : ∀ fr', (fr' 0 = fr 0 ∧ fr' 1 = fr 1 ∧ fr' 2 = fr 2 ∧ fr' 3 = fr 3 ∧ fr' 10 = fr 10 ∧ fr' 11 = fr 11 ∧ fr' 12 = fr 12 ∧ fr' 13 = fr 13) → Q .normal fr' (G.set kf (farE (passF ps l)))) : vc Tw24 lf5_B1 Q fr G := by
 have hkl := (List.getElem?_eq_some_iff.1 gf).1
 simp only [lf5_B1, vc_block]
 refine loop_ind (fun fr' G' => ∃ (i : Nat) (m : List Int), i ≤ ps.length ∧ m.length = 7 ∧ (fr' 0 = fr 0 ∧ fr' 1 = fr 1 ∧ fr' 2 = fr 2 ∧ fr' 3 = fr 3 ∧ fr' 10 = fr 10 ∧ fr' 11 = fr 11 ∧ fr' 12 = fr 12 ∧ fr' 13 = fr 13) ∧ G' = G.set kf (farE m) ∧ fr' 14 = .p (.int .i64 i) ∧ passF (ps.drop i) m = passF ps l) (fun fr' _ => ps.length - ivar (fr' 14)) ⟨0, l, by omega, hl, ⟨rfl, rfl, rfl, rfl, rfl, rfl, rfl, rfl⟩, (set_self gf).symm, f14, rfl⟩ ?_
 rintro fr1 G1 ⟨i, m, hi, hm, ⟨z0, z1, z2, z3, z10, z11, z12, z13⟩, rfl, k14, hfo⟩
 rw [f12] at z12
 by_cases h : i < ps.length
 ·obtain ⟨p, hp⟩ : ∃ p, ps[i]? = some p := ⟨_, List.getElem?_eq_getElem h⟩
  have hnp := getE hp
  have hdr : ps.drop i = p :: ps.drop (i + 1) := by rw [List.drop_eq_getElem_cons h, hnp]
  rw [hdr] at hfo
  have hfo' : passF (ps.drop (i + 1)) (fstep m p) = passF ps l := hfo
  have hw := wrap_succ (i := i) (by omega)
  obtain ⟨s1, s2⟩ := hs p (List.mem_of_getElem? hp)
  obtain ⟨pa, pb⟩ := p
  simp only at s1 s2
  have hpe : cPr.enc (pa, pb) = .agg [.int .i64 pa, .int .i64 pb] := rfl
  have ra := iL_at hm s1
  have rb := iL_at hm s2
  have h7 := iL_len m
  rw [hm] at h7
  have wa := iL_put (v := mn2 (FL m pa) (w1 (FL m pb))) hm s1
  have hm2 : (m.set pa.toNat (mn2 (FL m pa) (w1 (FL m pb)))).length = 7 := by rw [List.length_set, hm]
  have wb := iL_put (v := mn2 (FL m pb) (w1 (FL m pa))) hm2 s2
  have hst : fstep m (pa, pb) = (m.set pa.toNat (mn2 (FL m pa) (w1 (FL m pb)))).set pb.toNat (mn2 (FL m pb) (w1 (FL m pa))) := rfl
  rw [← hst] at wb
  have hm3 : (fstep m (pa, pb)).length = 7 := by rw [hst, List.length_set, hm2]
  have ga : (G.set kf (farE m))[kf]? = some (farE m) := List.getElem?_set_self hkl
  have haa : (0 ≤ pa ∧ pa < 7) := s1
  have hbb : (0 ≤ pb ∧ pb < 7) := s2
  have ta : pa.toNat + 1 ≤ 7 := by omega
  have tb : pb.toNat + 1 ≤ 7 := by omega
  have hml : (ps.map cPr.enc).length = ps.length := List.length_map ..
  have hmg : (ps.map cPr.enc)[i]? = some (PVal.agg [.int .i64 pa, .int .i64 pb]) := by rw [List.getElem?_map, hp]; rfl
  simp only [farE] at ga ⊢
  unfold mn2 w1 at wa wb
  rcases hv with k0 | ⟨kk, w, fz, k0, kg⟩
  ·rw [k0] at z0
   simp [z0, z12, k14, h, hml, hmg, ga, -getElem?_pos, List.getElem?_cons_zero, List.getElem?_cons_succ]
   rw [vc_regionW]
   refine ⟨[], ?_⟩
   simp [-putCells, z0, z12, k14, h, ga, ra, rb, wa, wb, h7, haa, hbb, ta, tb, hkl, hw, -getElem?_pos, List.getElem?_cons_zero, List.getElem?_cons_succ]
   have hmm : ps.length - (i + 1) < ps.length - i := by omega
   exact ⟨⟨i + 1, by omega, fstep m (pa, pb), hm3, ⟨k0.symm, z1, z2, z3, z10, z11, f12.symm, z13⟩, rfl, rfl, hfo'⟩, by simpa [ivar] using hmm⟩
  ·have hne : kk ≠ kf := hkf _ _ _ _ k0
   have hA : ∀ x, (G.set kf x)[kk]? = some ⟨2, w, fz, (ps.map cPr.enc).map .p, 67⟩ := fun x => by rw [List.getElem?_set_ne (Ne.symm hne)]; exact kg
   have hmg' : ((ps.map cPr.enc).map AVal.p)[i]? = some (.p (.agg [.int .i64 pa, .int .i64 pb])) := by rw [List.getElem?_map, hmg]; rfl
   rw [k0] at z0
   obtain ⟨C, hC⟩ : ∃ t, t = (ps.map cPr.enc).map AVal.p := ⟨_, rfl⟩
   rw [← hC] at hA hmg'
   simp [z0, z12, k14, h, hA, hmg', ga, -getElem?_pos, List.getElem?_cons_zero, List.getElem?_cons_succ]
   rw [vc_regionW]
   refine ⟨[], ?_⟩
   simp [-putCells, z0, z12, k14, h, hA, hmg', ga, ra, rb, wa, wb, h7, haa, hbb, ta, tb, hkl, hw, -getElem?_pos, List.getElem?_cons_zero, List.getElem?_cons_succ]
   have hmm : ps.length - (i + 1) < ps.length - i := by omega
   exact ⟨⟨i + 1, by omega, fstep m (pa, pb), hm3, ⟨k0.symm, z1, z2, z3, z10, z11, f12.symm, z13⟩, rfl, rfl, hfo'⟩, by simpa [ivar] using hmm⟩
 ·have hil : i = ps.length := by omega
  subst hil
  rw [List.drop_of_length_le (Nat.le_refl _)] at hfo
  have hfo' : m = passF ps l := hfo
  subst hfo'
  rcases hv with k0 | ⟨kk, w, fz, k0, kg⟩
  ·rw [k0] at z0
   simp [z0, k14]
   exact hQ _ ⟨by simp [z0, k0], by simp [z1], by simp [z2], by simp [z3], by simp [z10], by simp [z11], by simp [z12, f12], by simp [z13]⟩
  ·have hne : kk ≠ kf := hkf _ _ _ _ k0
   have hA : ∀ x, (G.set kf x)[kk]? = some ⟨2, w, fz, (ps.map cPr.enc).map .p, 67⟩ := fun x => by rw [List.getElem?_set_ne (Ne.symm hne)]; exact kg
   rw [k0] at z0
   simp [z0, k14, hA]
   exact hQ _ ⟨by simp [z0, k0], by simp [z1], by simp [z2], by simp [z3], by simp [z10], by simp [z11], by simp [z12, f12], by simp [z13]⟩
theorem passF_len : ∀ (L : Edges) {l : List Int}, l.length = 7 → (passF L l).length = 7
 | [], _, h => h
 | p :: L, l, h => passF_len L (l := fstep l p) (by simp [fstep, h])
theorem itF_len (ps : Edges) {l : List Int} (h : l.length = 7) : ∀ k, (itF ps k l).length = 7
 | 0 => h
 | k + 1 => passF_len ps (itF_len ps h k)
theorem b2_walk24 {Q : LExit → AFr → Heap → Prop} {fr : AFr} {G : Heap} {ps : Edges} {l : List Int} {kf : Nat} (hlen : ps.length ≤ 12) (hs : Small ps) (hl : l.length = 7) (hv : VP G (fr 0) ps) (hkf : ∀ k o n w, fr 0 = .own k o n w → k ≠ kf)
  (f12 : fr 12 = .optr kf 0 0 0) (gf : G[kf]? = some (farE l)) (f13 : fr 13 = .p (.int .i64 0))
  (hQ : ∀ fr', (fr' 0 = fr 0 ∧ fr' 1 = fr 1 ∧ fr' 2 = fr 2 ∧ fr' 3 = fr 3 ∧ fr' 10 = fr 10 ∧ fr' 11 = fr 11 ∧ fr' 12 = fr 12) → Q .normal fr' (G.set kf (farE (itF ps 7 l)))) : vc Tw24 lf5_B2 Q fr G := by
 have hkl := (List.getElem?_eq_some_iff.1 gf).1
 simp only [lf5_B2, vc_block]
 refine loop_ind (fun fr' G' => ∃ (i : Nat), i ≤ 7 ∧ (fr' 0 = fr 0 ∧ fr' 1 = fr 1 ∧ fr' 2 = fr 2 ∧ fr' 3 = fr 3 ∧ fr' 10 = fr 10 ∧ fr' 11 = fr 11 ∧ fr' 12 = fr 12) ∧ G' = G.set kf (farE (itF ps i l)) ∧ fr' 13 = .p (.int .i64 i)) (fun fr' _ => 7 - ivar (fr' 13)) ⟨0, by omega, ⟨rfl, rfl, rfl, rfl, rfl, rfl, rfl⟩, (set_self gf).symm, f13⟩ ?_
 rintro fr1 G1 ⟨i, hi, ⟨z0, z1, z2, z3, z10, z11, z12⟩, rfl, k13⟩
 by_cases h : i < 7
 ·have hw := wrap_succ (i := i) (by omega)
  have h' : (i : Int) < 7 := by omega
  simp [k13, h, h']
  refine b1_walk24 (ps := ps) (l := itF ps i l) (kf := kf) hlen hs (itF_len ps hl i) ?_ ?_ (by simp [z12, f12]) (List.getElem?_set_self hkl) (by simp) fun fr2 ⟨y0, y1, y2, y3, y10, y11, y12, y13⟩ => ?_
  ·simp only [upd, z0]
   rcases hv with k0 | ⟨kk, w, fz, k0, kg⟩
   ·exact .inl k0
   ·exact .inr ⟨kk, w, fz, k0, by rw [List.getElem?_set_ne (Ne.symm (hkf _ _ _ _ k0))]; exact kg⟩
  ·simp only [upd, z0]
   exact hkf
  ·simp at y0 y1 y2 y3 y10 y11 y12 y13
   simp [y0, y1, y2, y3, y10, y11, y12, y13, k13, hw, z0, z1, z2, z3, z10, z11, z12]
   have hmm : 7 - (i + 1) < 7 - i := by omega
   exact ⟨⟨i + 1, by omega, rfl, rfl⟩, by simpa [ivar] using hmm⟩
 ·have hil : i = 7 := by omega
  subst hil
  simp [k13]
  exact hQ _ ⟨by simp [z0], by simp [z1], by simp [z2], by simp [z3], by simp [z10], by simp [z11], by simp [z12]⟩
end Go.Proofs.YtgbjjikaenlkmaaGreat

/-
 uf: the law of ways, the way itself.
-/
namespace Go.Proofs.YtgbjjikaenlkmaaGreat
open Go Go.Abs Go.Limbs
variable {base : Prot}
set_option maxRecDepth 20000
attribute [local irreducible] vc
attribute [local simp] pureS touchV freezeL fuel shiftV u64 au
def metF (ps : Edges) (q : Int × Int) : Bool := ps.any fun p => p.1 == q.1 && p.2 == q.2
theorem metF_mem {ps : Edges} {q : Int × Int} (h : q ∈ ps) : metF ps q = true := by
 unfold metF
 exact List.any_eq_true.2 ⟨q, h, by simp⟩
theorem b3_walk24 {Q : LExit → AFr → Heap → Prop} {fr : AFr} {G : Heap} {ps L : Edges} {i : Nat} {q : Int × Int} (hlen : ps.length ≤ 12) (hv : VP G (fr 0) ps) (f10 : fr 10 = .p (.lst (L.map cPr.enc))) (f18 : fr 18 = .p (.int .i64 i)) (hq : L[i]? = some q) (f19 : fr 19 = .p (.bool false)) (f20 : fr 20 = .p (.int .i64 0))
  (hQ : ∀ fr', (fr' 0 = fr 0 ∧ fr' 1 = fr 1 ∧ fr' 2 = fr 2 ∧ fr' 3 = fr 3 ∧ fr' 10 = fr 10 ∧ fr' 11 = fr 11 ∧ fr' 17 = fr 17 ∧ fr' 18 = fr 18) → fr' 19 = .p (.bool (metF ps q)) → Q .normal fr' G) : vc Tw24 lf5_B3 Q fr G := by
 simp only [lf5_B3, vc_block]
 refine loop_ind (fun fr' G' => ∃ (j : Nat), j ≤ ps.length ∧ (fr' 0 = fr 0 ∧ fr' 1 = fr 1 ∧ fr' 2 = fr 2 ∧ fr' 3 = fr 3 ∧ fr' 10 = fr 10 ∧ fr' 11 = fr 11 ∧ fr' 17 = fr 17 ∧ fr' 18 = fr 18) ∧ G' = G ∧ fr' 20 = .p (.int .i64 j) ∧ fr' 19 = .p (.bool (metF (ps.take j) q))) (fun fr' _ => ps.length - ivar (fr' 20)) ⟨0, by omega, ⟨rfl, rfl, rfl, rfl, rfl, rfl, rfl, rfl⟩, rfl, f20, by simpa [metF] using f19⟩ ?_
 rintro fr1 G1 ⟨j, hj, ⟨z0, z1, z2, z3, z10, z11, z17, z18⟩, rfl, k20, k19⟩
 rw [f10] at z10
 rw [f18] at z18
 obtain ⟨qa, qb⟩ := q
 have hqg : (L.map cPr.enc)[i]? = some (PVal.agg [.int .i64 qa, .int .i64 qb]) := by rw [List.getElem?_map, hq]; rfl
 by_cases h : j < ps.length
 ·obtain ⟨p, hp⟩ : ∃ p, ps[j]? = some p := ⟨_, List.getElem?_eq_getElem h⟩
  have hw := wrap_succ (i := j) (by omega)
  obtain ⟨pa, pb⟩ := p
  have hml : (ps.map cPr.enc).length = ps.length := List.length_map ..
  have hmg : (ps.map cPr.enc)[j]? = some (PVal.agg [.int .i64 pa, .int .i64 pb]) := by rw [List.getElem?_map, hp]; rfl
  have hmg' : ((ps.map cPr.enc).map AVal.p)[j]? = some (.p (.agg [.int .i64 pa, .int .i64 pb])) := by rw [List.getElem?_map, hmg]; rfl
  have hts : metF (ps.take (j + 1)) (qa, qb) = (metF (ps.take j) (qa, qb) || (pa == qa && pb == qb)) := by
   unfold metF
   rw [List.take_add_one, hp, List.any_append]
   simp
  have hmm : ps.length - (j + 1) < ps.length - j := by omega
  obtain ⟨LL, hLL⟩ : ∃ t, t = L.map cPr.enc := ⟨_, rfl⟩
  rw [← hLL] at hqg z10 f10
  cases hmt : metF (ps.take j) (qa, qb) with
  | true =>
   rw [hmt] at k19 hts
   rcases hv with k0 | ⟨kk, w, fz, k0, kg⟩
   ·rw [k0] at z0
    simp [z0, z10, z18, k19, k20, h, hml, hw, -getElem?_pos, List.getElem?_cons_zero, List.getElem?_cons_succ]
    exact ⟨⟨j + 1, by omega, ⟨k0.symm, z1, z2, z3, f10.symm, z11, z17, f18.symm⟩, rfl, by rw [hts]; rfl⟩, by simpa [ivar] using hmm⟩
   ·rw [k0] at z0
    obtain ⟨C, hC⟩ : ∃ t, t = (ps.map cPr.enc).map AVal.p := ⟨_, rfl⟩
    rw [← hC] at kg hmg'
    simp [z0, z10, z18, k19, k20, h, kg, hw, -getElem?_pos, List.getElem?_cons_zero, List.getElem?_cons_succ]
    exact ⟨⟨j + 1, by omega, ⟨k0.symm, z1, z2, z3, f10.symm, z11, z17, f18.symm⟩, rfl, by rw [hts]; rfl⟩, by simpa [ivar] using hmm⟩
  | false =>
   rw [hmt] at k19 hts
   rcases hv with k0 | ⟨kk, w, fz, k0, kg⟩
   ·rw [k0] at z0
    obtain ⟨C, hC⟩ : ∃ t, t = ps.map cPr.enc := ⟨_, rfl⟩
    rw [← hC] at z0 k0 hml hmg
    simp [z0, z10, z18, k19, k20, h, hml, hmg, hqg, hw, eqCells, eqCell, -getElem?_pos, List.getElem?_cons_zero, List.getElem?_cons_succ]
    exact ⟨⟨j + 1, by omega, ⟨k0.symm, z1, z2, z3, f10.symm, z11, z17, f18.symm⟩, rfl, by rw [hts]; rfl⟩, by simpa [ivar] using hmm⟩
   ·rw [k0] at z0
    obtain ⟨C, hC⟩ : ∃ t, t = (ps.map cPr.enc).map AVal.p := ⟨_, rfl⟩
    rw [← hC] at kg hmg'
    simp [z0, z10, z18, k19, k20, h, kg, hmg', hqg, hw, eqCells, eqCell, -getElem?_pos, List.getElem?_cons_zero, List.getElem?_cons_succ]
    exact ⟨⟨j + 1, by omega, ⟨k0.symm, z1, z2, z3, f10.symm, z11, z17, f18.symm⟩, rfl, by rw [hts]; rfl⟩, by simpa [ivar] using hmm⟩
 ·have hil : j = ps.length := by omega
  subst hil
  rw [List.take_of_length_le (Nat.le_refl _)] at k19
  rcases hv with k0 | ⟨kk, w, fz, k0, kg⟩
  ·rw [k0] at z0
   simp [z0, k20]
   exact hQ _ ⟨by simp [z0, k0], by simp [z1], by simp [z2], by simp [z3], by simp [z10, f10], by simp [z11], by simp [z17], by simp [z18, f18]⟩ (by simp [k19])
  ·rw [k0] at z0
   simp [z0, k20, kg]
   exact hQ _ ⟨by simp [z0, k0], by simp [z1], by simp [z2], by simp [z3], by simp [z10, f10], by simp [z11], by simp [z17], by simp [z18, f18]⟩ (by simp [k19])
theorem b4_walk24 {Q : LExit → AFr → Heap → Prop} {fr : AFr} {G : Heap} {ps L : Edges} {x y : Int} (hlen : ps.length ≤ 12) (hL : L.length ≤ 100) (hv : VP G (fr 0) ps) (f10 : fr 10 = .p (.lst (L.map cPr.enc))) (f17 : fr 17 = .p (.int .i64 x)) (f18 : fr 18 = .p (.int .i64 0)) (hg : goes ps x L = some y)
  (hQ : ∀ fr', (fr' 0 = fr 0 ∧ fr' 1 = fr 1 ∧ fr' 2 = fr 2 ∧ fr' 3 = fr 3 ∧ fr' 10 = fr 10 ∧ fr' 11 = fr 11) → fr' 17 = .p (.int .i64 y) → Q .normal fr' G) : vc Tw24 lf5_B4 Q fr G := by
 simp only [lf5_B4, vc_block]
 refine loop_ind (fun fr' G' => ∃ (i : Nat) (n : Int), i ≤ L.length ∧ (fr' 0 = fr 0 ∧ fr' 1 = fr 1 ∧ fr' 2 = fr 2 ∧ fr' 3 = fr 3 ∧ fr' 10 = fr 10 ∧ fr' 11 = fr 11) ∧ G' = G ∧ fr' 18 = .p (.int .i64 i) ∧ fr' 17 = .p (.int .i64 n) ∧ goes ps n (L.drop i) = some y) (fun fr' _ => L.length - ivar (fr' 18)) ⟨0, x, by omega, ⟨rfl, rfl, rfl, rfl, rfl, rfl⟩, rfl, f18, f17, hg⟩ ?_
 rintro fr1 G1 ⟨i, n, hi, ⟨z0, z1, z2, z3, z10, z11⟩, rfl, k18, k17, hgo⟩
 have hml : (L.map cPr.enc).length = L.length := List.length_map ..
 by_cases h : i < L.length
 ·obtain ⟨q, hq⟩ : ∃ q, L[i]? = some q := ⟨_, List.getElem?_eq_getElem h⟩
  have hdr : L.drop i = q :: L.drop (i + 1) := by rw [List.drop_eq_getElem_cons h, getE hq]
  rw [hdr] at hgo
  unfold goes at hgo
  split at hgo
  case isFalse => cases hgo
  rename_i hc
  obtain ⟨hmem, hor⟩ := hc
  have hw := wrap_succ (i := i) (by omega)
  have hmet := metF_mem hmem
  have hmm : L.length - (i + 1) < L.length - i := by omega
  have hqg : (L.map cPr.enc)[i]? = some (PVal.agg [.int .i64 q.1, .int .i64 q.2]) := by rw [List.getElem?_map, hq]; rfl
  simp [z10, f10, k18, h, -getElem?_pos, List.getElem?_cons_zero, List.getElem?_cons_succ]
  refine b3_walk24 (ps := ps) (L := L) (i := i) (q := q) hlen (by simpa [z0] using hv) (by simp [z10, f10]) (by simp [k18]) hq (by simp) (by simp) fun fr2 ⟨y0, y1, y2, y3, y10, y11, y17, y18⟩ y19 => ?_
  rw [hmet] at y19
  simp at y0 y1 y2 y3 y10 y11 y17 y18
  obtain ⟨qa, qb⟩ := q
  simp only at hqg hor
  obtain ⟨LL, hLL⟩ : ∃ t, t = L.map cPr.enc := ⟨_, rfl⟩
  rw [← hLL] at hqg f10
  by_cases ha : qa = n
  ·have ht : toE (qa, qb) n = qb := by unfold toE; rw [if_pos ha]
   rw [ht] at hgo
   have hb : (n == qa) = true := by simp [ha]
   simp [y0, y1, y2, y3, y10, y11, y17, y18, y19, z0, z1, z2, z3, z10, z11, f10, k17, k18, hqg, hb, hw, -beq_iff_eq, -getElem?_pos, List.getElem?_cons_zero, List.getElem?_cons_succ]
   exact ⟨⟨i + 1, by omega, hLL, rfl, hgo⟩, by simpa [ivar] using hmm⟩
  ·have ht : toE (qa, qb) n = qa := by unfold toE; rw [if_neg ha]
   rw [ht] at hgo
   have hb : (n == qa) = false := by simp [Ne.symm ha]
   have hbb : (n == qb) = true := by
    rcases hor with h1 | h1
    ·exact absurd h1 ha
    ·simp [h1]
   simp [y0, y1, y2, y3, y10, y11, y17, y18, y19, z0, z1, z2, z3, z10, z11, f10, k17, k18, hqg, hb, hbb, hw, -beq_iff_eq, -getElem?_pos, List.getElem?_cons_zero, List.getElem?_cons_succ]
   exact ⟨⟨i + 1, by omega, hLL, rfl, hgo⟩, by simpa [ivar] using hmm⟩
 ·have hil : i = L.length := by omega
  subst hil
  rw [List.drop_of_length_le (Nat.le_refl _)] at hgo
  cases hgo
  simp [z10, f10, k18]
  exact hQ _ ⟨by simp [z0], by simp [z1], by simp [z2], by simp [z3], by simp [z10, f10], by simp [z11]⟩ (by simp [k17])
end Go.Proofs.YtgbjjikaenlkmaaGreat

/-
 uf: the law of ways.
-/
namespace Go.Proofs.YtgbjjikaenlkmaaGreat
open Go Go.Abs Go.Limbs
variable {base : Prot}
set_option maxRecDepth 20000
attribute [local irreducible] vc
attribute [local simp] pureS touchV freezeL fuel shiftV u64 au
def r9 (l : List Int) : List Int := l.map (· % 9)
theorem b5_walk24 {Q : LExit → AFr → Heap → Prop} {fr : AFr} {G : Heap} {l : List Int} {a : Int} (hlen : l.length ≤ 20) (f3 : fr 3 = .p (.lst (iL l))) (f22 : fr 22 = .p (.int .i64 a)) (f24 : fr 24 = .p (.int .i64 0))
  (hQ : ∀ fr', (fr' 1 = fr 1 ∧ fr' 2 = fr 2 ∧ fr' 3 = fr 3 ∧ fr' 11 = fr 11 ∧ fr' 17 = fr 17 ∧ fr' 21 = fr 21 ∧ fr' 23 = fr 23) → fr' 22 = .p (.int .i64 (innW (r9 l) a)) → Q .normal fr' G) : vc Tw24 lf5_B5 Q fr G := by
 simp only [lf5_B5, vc_block]
 have hll := iL_len l
 refine loop_ind (fun fr' G' => ∃ (i : Nat) (b : Int), i ≤ l.length ∧ (fr' 1 = fr 1 ∧ fr' 2 = fr 2 ∧ fr' 3 = fr 3 ∧ fr' 11 = fr 11 ∧ fr' 17 = fr 17 ∧ fr' 21 = fr 21 ∧ fr' 23 = fr 23) ∧ G' = G ∧ fr' 24 = .p (.int .i64 i) ∧ fr' 22 = .p (.int .i64 b) ∧ innW (r9 (l.drop i)) b = innW (r9 l) a) (fun fr' _ => l.length - ivar (fr' 24)) ⟨0, a, by omega, ⟨rfl, rfl, rfl, rfl, rfl, rfl, rfl⟩, rfl, f24, f22, rfl⟩ ?_
 rintro fr1 G1 ⟨i, b, hi, ⟨z1, z2, z3, z11, z17, z21, z23⟩, rfl, k24, k22, hfo⟩
 rw [f3] at z3
 by_cases h : i < l.length
 ·obtain ⟨n, hn⟩ : ∃ n, l[i]? = some n := ⟨_, List.getElem?_eq_getElem h⟩
  have hdr : l.drop i = n :: l.drop (i + 1) := by rw [List.drop_eq_getElem_cons h, getE hn]
  rw [hdr] at hfo
  have hfo' : innW (r9 (l.drop (i + 1))) (if n % 9 = b then w1 b else b) = innW (r9 l) a := hfo
  have hw := wrap_succ (i := i) (by omega)
  have hr := sRoundN_at (k := n) (n := 9) (by omega) (by omega)
  have hg : (iL l)[i]? = some (.int .i64 n) := by unfold iL; rw [List.getElem?_map, hn]; rfl
  have hmm : l.length - (i + 1) < l.length - i := by omega
  obtain ⟨C, hC⟩ : ∃ t, t = iL l := ⟨_, rfl⟩
  rw [← hC] at hg hll z3 f3
  by_cases hb : n % 9 = b
  ·have hb' : (n % 9 == b) = true := by simp [hb]
   rw [if_pos hb] at hfo'
   unfold w1 at hfo'
   simp [-beq_iff_eq, z3, k22, k24, h, hll, hg, hr, hb', hw, Tw24_mu, Tw24_fns, -getElem?_pos, List.getElem?_cons_zero, List.getElem?_cons_succ]
   exact ⟨⟨i + 1, by omega, ⟨z1, z2, f3.symm, z11, z17, z21, z23⟩, rfl, hfo'⟩, by simpa [ivar] using hmm⟩
  ·have hb' : (n % 9 == b) = false := by simp [hb]
   rw [if_neg hb] at hfo'
   simp [-beq_iff_eq, -beq_eq_false_iff_ne, z3, k22, k24, h, hll, hg, hr, hb', hw, Tw24_mu, Tw24_fns, -getElem?_pos, List.getElem?_cons_zero, List.getElem?_cons_succ]
   exact ⟨⟨i + 1, by omega, ⟨z1, z2, f3.symm, z11, z17, z21, z23⟩, rfl, hfo'⟩, by simpa [ivar] using hmm⟩
 ·have hil : i = l.length := by omega
  subst hil
  rw [List.drop_of_length_le (Nat.le_refl _)] at hfo
  have hfo' : b = innW (r9 l) a := hfo
  subst hfo'
  simp [z3, k24, hll]
  exact hQ _ ⟨by simp [z1], by simp [z2], by simp [z3, f3], by simp [z11], by simp [z17], by simp [z21], by simp [z23]⟩ (by simp [k22])
theorem b6_walk24 {Q : LExit → AFr → Heap → Prop} {fr : AFr} {G : Heap} {l : List Int} (hlen : l.length ≤ 20) (f3 : fr 3 = .p (.lst (iL l))) (f22 : fr 22 = .p (.int .i64 0)) (f23 : fr 23 = .p (.int .i64 0))
  (hQ : ∀ fr', (fr' 1 = fr 1 ∧ fr' 2 = fr 2 ∧ fr' 3 = fr 3 ∧ fr' 11 = fr 11 ∧ fr' 17 = fr 17 ∧ fr' 21 = fr 21) → fr' 22 = .p (.int .i64 (itL (r9 l) (l.length + 1) 0)) → Q .normal fr' G) : vc Tw24 lf5_B6 Q fr G := by
 simp only [lf5_B6, vc_block]
 have hll := iL_len l
 refine loop_ind (fun fr' G' => ∃ (i : Nat), i ≤ l.length + 1 ∧ (fr' 1 = fr 1 ∧ fr' 2 = fr 2 ∧ fr' 3 = fr 3 ∧ fr' 11 = fr 11 ∧ fr' 17 = fr 17 ∧ fr' 21 = fr 21) ∧ G' = G ∧ fr' 23 = .p (.int .i64 i) ∧ fr' 22 = .p (.int .i64 (itL (r9 l) i 0))) (fun fr' _ => l.length + 1 - ivar (fr' 23)) ⟨0, by omega, ⟨rfl, rfl, rfl, rfl, rfl, rfl⟩, rfl, f23, f22⟩ ?_
 rintro fr1 G1 ⟨i, hi, ⟨z1, z2, z3, z11, z17, z21⟩, rfl, k23, k22⟩
 rw [f3] at z3
 by_cases h : i ≤ l.length
 ·have hw := wrap_succ (i := i) (by omega)
  have hmm : l.length + 1 - (i + 1) < l.length + 1 - i := by omega
  simp [z3, k23, hll, h]
  refine b5_walk24 (l := l) (a := itL (r9 l) i 0) hlen (by simp [z3]) (by simp [k22]) (by simp) fun fr2 ⟨y1, y2, y3, y11, y17, y21, y23⟩ y22 => ?_
  simp at y1 y2 y3 y11 y17 y21 y23
  simp [y1, y2, y3, y11, y17, y21, y22, y23, z1, z2, z3, z11, z17, z21, f3, k23, hw]
  exact ⟨⟨i + 1, by omega, rfl, rfl⟩, by simpa [ivar] using hmm⟩
 ·have hil : i = l.length + 1 := by omega
  subst hil
  have hn : ¬ ((l.length : Int) + 1 ≤ l.length) := by omega
  simp [z3, k23, hll, hn]
  exact hQ _ ⟨by simp [z1], by simp [z2], by simp [z3, f3], by simp [z11], by simp [z17], by simp [z21]⟩ (by simp [k22])
def forbV (m : Int) : List Int → List Va
 | [] => []
 | n :: r => valV 3 (n % 9) :: valV 2 m :: forbV m r
theorem forbV_len (m : Int) : ∀ l : List Int, (forbV m l).length = 2 * l.length
 | [] => rfl
 | n :: r => by simp only [forbV, List.length_cons, forbV_len m r]; omega
theorem forbV_els (m : Int) : ∀ l : List Int, elsOf 3 (forbV m l) = r9 l
 | [] => rfl
 | n :: r => by
  have h1 : (valV 3 (n % 9)).k = 3 := rfl
  have h2 : (valV 2 m).k = 2 := rfl
  have h3 : (valV 3 (n % 9)).el = n % 9 := rfl
  simp only [forbV, elsOf, h1, h2, h3, forbV_els m r, r9, List.map_cons]
  rfl
theorem forbV_wf (m : Int) : ∀ l : List Int, cVa.wfL (forbV m l)
 | [] => by intro x hx; cases hx
 | n :: r => by
  intro x hx
  have hz : zF.wf := ⟨by intro y hy; simp [zF] at hy, by intro y hy; simp [zF] at hy⟩
  rcases List.mem_cons.1 hx with rfl | hx
  ·exact hz
  ·rcases List.mem_cons.1 hx with rfl | hx
   ·exact hz
   ·exact forbV_wf m r x hx
theorem forbV_snoc (m n : Int) : ∀ l : List Int, forbV m (l ++ [n]) = forbV m l ++ [valV 3 (n % 9), valV 2 m]
 | [] => rfl
 | x :: r => by simp only [List.cons_append, forbV, forbV_snoc m n r]
def VV (G : Heap) (v : AVal) (L : List Va) : Prop := (L = [] ∧ v = .tight []) ∨ ∃ k w, v = .own k 0 L.length w ∧ G[k]? = some ⟨6, w, false, (L.map Va.enc).map .p, 35⟩
theorem b7_walk24 {Q : LExit → AFr → Heap → Prop} {fr : AFr} {G : Heap} {l : List Int} {m : Int} (hm : -1000 ≤ m ∧ m ≤ 1000) (hlen : l.length ≤ 20) (f3 : fr 3 = .p (.lst (iL l))) (f21 : fr 21 = .tight []) (f22 : fr 22 = .p (.int .i64 m)) (f25 : fr 25 = .p (.int .i64 0))
  (hQ : ∀ fr' G', (fr' 1 = fr 1 ∧ fr' 2 = fr 2 ∧ fr' 11 = fr 11 ∧ fr' 17 = fr 17 ∧ fr' 22 = fr 22) → VV G' (fr' 21) (forbV m l) → Q .normal fr' G') : vc Tw24 lf5_B7 Q fr G := by
 simp only [lf5_B7, vc_block]
 have hll := iL_len l
 refine loop_ind (fun fr' G' => ∃ (i : Nat), i ≤ l.length ∧ (fr' 1 = fr 1 ∧ fr' 2 = fr 2 ∧ fr' 3 = fr 3 ∧ fr' 11 = fr 11 ∧ fr' 17 = fr 17 ∧ fr' 22 = fr 22) ∧ fr' 25 = .p (.int .i64 i) ∧ VV G' (fr' 21) (forbV m (l.take i))) (fun fr' _ => l.length - ivar (fr' 25)) ⟨0, by omega, ⟨rfl, rfl, rfl, rfl, rfl, rfl⟩, f25, .inl ⟨rfl, f21⟩⟩ ?_
 rintro fr1 G1 ⟨i, hi, ⟨z1, z2, z3, z11, z17, z22⟩, k25, hv⟩
 rw [f3] at z3
 rw [f22] at z22
 by_cases h : i < l.length
 ·obtain ⟨n, hn⟩ : ∃ n, l[i]? = some n := ⟨_, List.getElem?_eq_getElem h⟩
  have hts : forbV m (l.take (i + 1)) = forbV m (l.take i) ++ [valV 3 (n % 9), valV 2 m] := by
   rw [List.take_add_one, hn, Option.toList_some, forbV_snoc]
  have hw := wrap_succ (i := i) (by omega)
  have hr := sRoundN_at (k := n) (n := 9) (by omega) (by omega)
  have hg : (iL l)[i]? = some (.int .i64 n) := by unfold iL; rw [List.getElem?_map, hn]; rfl
  have hmm : l.length - (i + 1) < l.length - i := by omega
  have hn9 : -1000 ≤ n % 9 ∧ n % 9 ≤ 1000 := by omega
  have v1 : sp2 cI cI valP [.int .i64 3, .int .i64 (n % 9)] = some (valV 3 (n % 9)).enc := (sp2_at (A := cI) (B := cI) (x := 3) (y := n % 9) trivial trivial).trans (if_pos hn9)
  have v2 : sp2 cI cI valP [.int .i64 2, .int .i64 m] = some (valV 2 m).enc := (sp2_at (A := cI) (B := cI) (x := 2) (y := m) trivial trivial).trans (if_pos hm)
  have e1 : (valV 3 (n % 9)).enc = .agg [.int .i64 3, .bool false, .bool false, .lst [], .lst [], .int .i64 (n % 9)] := rfl
  have e2 : (valV 2 m).enc = .agg [.int .i64 2, .bool false, .bool false, .lst [], .lst [], .int .i64 m] := rfl
  have hfl := forbV_len m (l.take i)
  rw [List.length_take, show min i l.length = i by omega] at hfl
  have hmx : maxLen = 9223372036854775807 := rfl
  have hel : (forbV m (l.take (i + 1))).map Va.enc = (forbV m (l.take i)).map Va.enc ++ [(valV 3 (n % 9)).enc, (valV 2 m).enc] := by rw [hts, List.map_append]; rfl
  have hll' : (forbV m (l.take (i + 1))).length = 2 * i + 2 := by rw [hts, List.length_append, hfl]; rfl
  obtain ⟨C, hC⟩ : ∃ t, t = iL l := ⟨_, rfl⟩
  rw [← hC] at hg hll z3 f3
  rw [e1] at v1
  rw [e2] at v2
  rw [e1, e2] at hel
  rcases hv with ⟨hnil, k21⟩ | ⟨kk, w, k21, kg⟩
  ·have hi0 : i = 0 := by rw [hnil] at hfl; simp at hfl; omega
   subst hi0
   simp only [List.take_zero, forbV, List.map_nil, List.nil_append] at hel
   have h2m : 2 ≤ maxLen := by rw [hmx]; omega
   simp [z3, z22, k21, k25, h, hll, hg, hr, hw, v1, v2, h2m, fillS, getT, getT0, setT, setT0, Tw24_mu, Tw24_fns, -getElem?_pos, List.getElem?_cons_zero, List.getElem?_cons_succ]
   have hx : ∀ G', G'[G1.length + 1]? = some ⟨6, 0, false, ((forbV m (l.take (0 + 1))).map Va.enc).map .p, 35⟩ → VV G' (.own (G1.length + 1) 0 2 0) (forbV m (l.take (0 + 1))) := fun G' hg => .inr ⟨_, _, by rw [hll'], hg⟩
   exact ⟨⟨0 + 1, by omega, ⟨z1, z2, f3.symm, z11, z17, f22.symm⟩, rfl, hx _ (by rw [getT, hel]; rfl)⟩, by
    have h0 : 0 < l.length := h
    show l.length - 1 < l.length - 0
    omega⟩
  ·have hkl := (List.getElem?_eq_some_iff.1 kg).1
   rw [hfl] at k21
   have hA : ∀ Z, (G1 ++ Z)[kk]? = some ⟨6, w, false, ((forbV m (l.take i)).map Va.enc).map .p, 35⟩ := fun Z => by rw [List.getElem?_append_left hkl]; exact kg
   obtain ⟨X, hX⟩ : ∃ t : List AVal, t = [.p (.agg [.int .i64 3, .bool false, .bool false, .lst [], .lst [], .int .i64 (n % 9)]), .p (.agg [.int .i64 2, .bool false, .bool false, .lst [], .lst [], .int .i64 m])] := ⟨_, rfl⟩
   have hXl : X.length = 2 := by rw [hX]; rfl
   have hEl : (((forbV m (l.take i)).map Va.enc).map AVal.p).length = 2 * i := by rw [List.length_map, List.length_map, hfl]
   have hnew : ((forbV m (l.take (i + 1))).map Va.enc).map AVal.p = ((forbV m (l.take i)).map Va.enc).map AVal.p ++ X := by rw [hel, List.map_append, hX]; rfl
   have a1 : ∀ z, appV 6 80 35 (.own kk 0 (2 * i) w) X (G1 ++ [z]) = some (.own kk 0 (2 * i + 2) (w + 1), (G1 ++ [z]).set kk ⟨6, w + 1, false, ((forbV m (l.take (i + 1))).map Va.enc).map AVal.p, 35⟩) := fun z => by
    rw [appV_own (size := 6) (ver := w) (fz := false) (els := ((forbV m (l.take i)).map Va.enc).map AVal.p) (hA _) (by rw [hX]; rfl) (by omega) hEl.symm (by rw [hEl, hXl]; omega) (by rw [hEl, hXl, hmx]; omega), hXl, hnew]
   have hx : ∀ z, VV ((G1 ++ [z]).set kk ⟨6, w + 1, false, ((forbV m (l.take (i + 1))).map Va.enc).map AVal.p, 35⟩) (.own kk 0 (2 * i + 2) (w + 1)) (forbV m (l.take (i + 1))) := fun z => .inr ⟨_, _, by rw [hll'], List.getElem?_set_self (by rw [List.length_append]; omega)⟩
   obtain ⟨EL, hEL⟩ : ∃ t, t = ((forbV m (l.take (i + 1))).map Va.enc).map AVal.p := ⟨_, rfl⟩
   rw [← hEL] at a1 hx
   subst hX
   simp [-appV, z3, z22, k21, k25, h, hll, hg, hr, hw, v1, v2, a1, hA, fillS, getT, getT0, setT, setT0, Tw24_mu, Tw24_fns, -getElem?_pos, List.getElem?_cons_zero, List.getElem?_cons_succ]
   exact ⟨⟨i + 1, by omega, ⟨z1, z2, f3.symm, z11, z17, f22.symm⟩, rfl, hx _⟩, by simpa [ivar] using hmm⟩
 ·have hil : i = l.length := by omega
  subst hil
  rw [List.take_of_length_le (Nat.le_refl _)] at hv
  simp [z3, k25, hll]
  exact hQ _ _ ⟨by simp [z1], by simp [z2], by simp [z11], by simp [z17], by simp [z22, f22]⟩ (by simpa using hv)
end Go.Proofs.YtgbjjikaenlkmaaGreat

/-
 uf: UfWays.
-/
namespace Go.Proofs.YtgbjjikaenlkmaaGreat
open Go Go.Abs Go.Limbs
variable {base : Prot}
set_option maxRecDepth 20000
attribute [local irreducible] vc
attribute [local simp] pureS touchV freezeL fuel shiftV u64 au
theorem VP.lt {G : Heap} {v : AVal} {L : Edges} (h : VP G v L) : ∀ k o n w, v = .own k o n w → k < G.length := fun k o n w e => by
 rcases h with h | ⟨kk, ww, fz, h, hg⟩
 ·rw [h] at e; cases e
 ·rw [h] at e; cases e; exact (List.getElem?_eq_some_iff.1 hg).1
theorem VP.more {G : Heap} {v : AVal} {L : Edges} (h : VP G v L) (Z : Heap) : VP (G ++ Z) v L := by
 rcases h with h | ⟨kk, ww, fz, h, hg⟩
 ·exact .inl h
 ·exact .inr ⟨kk, ww, fz, h, by rw [List.getElem?_append_left (List.getElem?_eq_some_iff.1 hg).1]; exact hg⟩
theorem VP.set {G : Heap} {v : AVal} {L : Edges} (h : VP G v L) {k : Nat} (e : Ent) (hk : ∀ k' o n w, v = .own k' o n w → k' ≠ k) : VP (G.set k e) v L := by
 rcases h with h | ⟨kk, ww, fz, h, hg⟩
 ·exact .inl h
 ·exact .inr ⟨kk, ww, fz, h, by rw [List.getElem?_set_ne (Ne.symm (hk _ _ _ _ h))]; exact hg⟩
theorem freeze1_is {G : Heap} {k : Nat} {e : Ent} (h : G[k]? = some e) : freeze1 G k = G.set k ⟨e.size, e.ver, true, e.elems, e.ty⟩ := by unfold freeze1; rw [h]
theorem VP.use {G : Heap} {v : AVal} {L : Edges} (h : VP G v L) : ∃ tl G2, resolveV G 8 v = some (.lst (L.map cPr.enc)) ∧ touchV G 8 v = tl ∧ List.foldl freeze1 G tl = G2 ∧ G2.length = G.length ∧ VP G2 v L := by
 rcases h with h | ⟨kk, ww, fz, h, hg⟩
 ·subst h
  exact ⟨[], G, rfl, rfl, rfl, rfl, .inl rfl⟩
 ·subst h
  have hl : ((L.map cPr.enc).map AVal.p).length = L.length := by simp
  have ht : (((L.map cPr.enc).map AVal.p).take L.length) = (L.map cPr.enc).map AVal.p := List.take_of_length_le (by omega)
  refine ⟨[kk], G.set kk ⟨2, ww, true, (L.map cPr.enc).map .p, 67⟩, ?_, ?_, ?_, by simp, .inr ⟨kk, ww, true, rfl, List.getElem?_set_self (List.getElem?_eq_some_iff.1 hg).1⟩⟩
  ·unfold resolveV
   simp only [hg]
   rw [if_pos ⟨trivial, by rw [hl]; omega⟩, List.drop_zero, ht, mapO_pure]
  ·unfold touchV
   simp only [hg]
   rw [List.drop_zero, ht, touch_pure]
  ·show freeze1 G kk = _
   rw [freeze1_is hg]
theorem VV.use {G : Heap} {v : AVal} {L : List Va} (h : VV G v L) : ∃ tl, resolveV G 8 v = some (.lst (L.map Va.enc)) ∧ touchV G 8 v = tl := by
 rcases h with ⟨rfl, h⟩ | ⟨kk, ww, h, hg⟩
 ·subst h
  exact ⟨_, rfl, rfl⟩
 ·subst h
  have hl : ((L.map Va.enc).map AVal.p).length = L.length := by simp
  have ht : (((L.map Va.enc).map AVal.p).take L.length) = (L.map Va.enc).map AVal.p := List.take_of_length_le (by omega)
  refine ⟨_, ?_, rfl⟩
  unfold resolveV
  simp only [hg]
  rw [if_pos ⟨trivial, by rw [hl]; omega⟩, List.drop_zero, ht, mapO_pure]
theorem sev_mod (n : Int) : Sev (n % 7) := ⟨Int.emod_nonneg _ (by omega), Int.emod_lt_of_pos _ (by omega)⟩
theorem rp7_small (ps : Edges) : Small (ps.map rp7) := fun e he => by
 obtain ⟨p, -, rfl⟩ := List.mem_map.1 he
 exact ⟨sev_mod _, sev_mod _⟩
def sUfWays : List PVal → Option PVal
 | [.lst es, .int .i64 _, .int .i64 _, .lst fs] => match decL cPr.dec es, decL cI.dec fs with
  | some _, some _ => some (.bool true)
  | _, _ => none
 | _ => none
theorem ways_ok : FnOk Tryz.prog base 5 (pureS sUfWays) := by
 refine pure_of_vc hmix Tw24_ok globNone low5 fun args z hs hf => ?_
 unfold sUfWays at hs
 split at hs
 case h_2 => cases hs
 rename_i es x y fs
 split at hs
 case h_2 => cases hs
 rename_i ps l hps hl
 cases hs
 obtain ⟨rfl, -⟩ := cPr.edL _ _ hps
 obtain ⟨rfl, -⟩ := cI.edL _ _ hl
 refine ⟨by simp [lf5], ?_⟩
 have hI : l.map cI.enc = iL l := rfl
 rw [hI]
 have hll := iL_len l
 have hpl : (ps.map cPr.enc).length = ps.length := List.length_map ..
 obtain ⟨CL, hCL⟩ : ∃ t, t = iL l := ⟨_, rfl⟩
 obtain ⟨CP, hCP⟩ : ∃ t, t = ps.map cPr.enc := ⟨_, rfl⟩
 rw [← hCL] at hll ⊢
 rw [← hCP] at hpl ⊢
 by_cases h12 : 12 < ps.length
 ·have h12' : (12 : Int) < ps.length := by omega
  simp [lf5, hpl, h12, h12', sAwk, Tw24_mu, Tw24_fns]
 have h12' : ¬ (12 : Int) < ps.length := by omega
 by_cases h20 : 20 < l.length
 ·have h20' : (20 : Int) < l.length := by omega
  simp [lf5, hpl, hll, h12, h12', h20, h20', sAwk, Tw24_mu, Tw24_fns]
 have h20' : ¬ (20 : Int) < l.length := by omega
 simp [lf5, hpl, hll, h12, h12', h20, h20']
 refine b0_walk24 (ps := ps) (by omega) (by simp [hCP]) (by simp) fun fr G ⟨z1, z2, z3⟩ hv => ?_
 simp at z1 z2 z3
 obtain ⟨qs, hqs⟩ : ∃ t, t = ps.map rp7 := ⟨_, rfl⟩
 have hql : qs.length ≤ 12 := by rw [hqs, List.length_map]; omega
 have hsm : Small qs := by rw [hqs]; exact rp7_small ps
 rw [← hqs] at hv
 obtain ⟨tl, G2, hres, htv, hfz, hG2, hv2⟩ := hv.use
 have hrx := sRoundN_at (k := x) (n := 7) (by omega) (by omega)
 have hry := sRoundN_at (k := y) (n := 7) (by omega) (by omega)
 have sx := sev_mod x
 have sy := sev_mod y
 obtain ⟨x', hx'⟩ : ∃ t, t = x % 7 := ⟨_, rfl⟩
 obtain ⟨y', hy'⟩ : ∃ t, t = y % 7 := ⟨_, rfl⟩
 rw [← hx'] at hrx sx
 rw [← hy'] at hry sy
 have key : ∃ (w : Edges) (e : Int) (n : Int), wayF qs x' y' = some (w, e) ∧ w.length ≤ 100 ∧ goes qs x' w = some n ∧ ((e = 0 ∧ n = y' ∧ FL (itF qs 7 (far0 x')) y' = w.length ∧ w.length < 99) ∨ (e = 5 ∧ w = [] ∧ ¬ FL (itF qs 7 (far0 x')) y' < 99)) := by
  rcases way_ok (x := x') hsm sy hql with ⟨w, h1, h2, h3⟩ | ⟨h1, h2⟩
  ·obtain ⟨h4, h5⟩ := far_min hsm sx h3
   exact ⟨w, 0, y', h1, by omega, h2, .inl ⟨rfl, rfl, h4, h5⟩⟩
  ·exact ⟨[], 5, x', h1, by simp, rfl, .inr ⟨rfl, rfl, far_none hsm sx sy h2⟩⟩
 obtain ⟨w, e, n, hway, hw100, hgo, hcase⟩ := key
 have hmerge : sp3 cPr.lst cI cI wayP [.lst (qs.map cPr.enc), .int .i64 x', .int .i64 y'] = some (.tup [.lst (w.map cPr.enc), .int .i64 e]) := by
  refine (sp3_at (A := cPr.lst) (B := cI) (C := cI) (x := qs) (y := x') (z := y') (fun _ _ => trivial) trivial trivial).trans ?_
  unfold wayP
  rw [if_pos (by omega), hway]
 have hwl : (w.map cPr.enc).length = w.length := List.length_map ..
 obtain ⟨QC, hQC⟩ : ∃ t, t = qs.map cPr.enc := ⟨_, rfl⟩
 obtain ⟨WC, hWC⟩ : ∃ t, t = w.map cPr.enc := ⟨_, rfl⟩
 rw [← hQC] at hres hmerge
 rw [← hWC] at hmerge hwl
 have p0 : putCells (.p (.agg [.int .i64 0, .int .i64 0, .int .i64 0, .int .i64 0, .int .i64 0, .int .i64 0, .int .i64 0])) (.p (.agg [.int .i64 99, .int .i64 99, .int .i64 99, .int .i64 99, .int .i64 99, .int .i64 99, .int .i64 99])) 0 7 = some (.p (.agg [.int .i64 99, .int .i64 99, .int .i64 99, .int .i64 99, .int .i64 99, .int .i64 99, .int .i64 99])) := rfl
 have p1 : putCells (.p (.agg [.int .i64 99, .int .i64 99, .int .i64 99, .int .i64 99, .int .i64 99, .int .i64 99, .int .i64 99])) (.p (.int .i64 0)) x'.toNat 1 = some (.p (.agg (iL (far0 x')))) := iL_put (l := List.replicate 7 99) (v := 0) rfl sx
 have hxx : 0 ≤ x' ∧ x' < 7 := sx
 have hyy : 0 ≤ y' ∧ y' < 7 := sy
 simp [z1, z2, z3, hrx, hry, hres, htv, hfz, hmerge, p0, p1, hxx, fillA, getT, getT0, setT, setT0, Tw24_mu, Tw24_fns, -putCells, -getElem?_pos, List.getElem?_cons_zero, List.getElem?_cons_succ]
 have hv3 : VP (G2 ++ [farE (far0 x')]) (fr 0) qs := hv2.more _
 have hkf : ∀ k o n w, fr 0 = .own k o n w → k ≠ G2.length := fun k o n w e => by have := hv2.lt _ _ _ _ e; omega
 refine b2_walk24 (ps := qs) (l := far0 x') (kf := G2.length) hql hsm (by simp [far0]) (by exact hv3) (by exact hkf) (by simp) (by rw [getT0]; rfl) (by simp) fun fr2 ⟨y0, y1, y2, y3, y10, y11, y12⟩ => ?_
 simp [z1, z2, z3] at y0 y1 y2 y3 y10 y11 y12
 rw [setT0]
 have hv4 : VP (G2 ++ [farE (itF qs 7 (far0 x'))]) (fr2 0) qs := by rw [y0]; exact hv2.more _
 have hF7 := itF_len qs (show (far0 x').length = 7 by simp [far0]) 7
 have hFa := iL_at hF7 sy
 have hFl := iL_len (itF qs 7 (far0 x'))
 rw [hF7] at hFl
 have hyt : y'.toNat + 1 ≤ 7 := by omega
 obtain ⟨FF, hFF⟩ : ∃ t, t = FL (itF qs 7 (far0 x')) y' := ⟨_, rfl⟩
 rw [← hFF] at hFa hcase
 have cond : ∀ Q' : Prop, Q' → Q' := fun _ h => h
 rcases hcase with ⟨rfl, rfl, hd, hd99⟩ | ⟨rfl, rfl, hd⟩
 ·have hlt : (w.length : Int) < 99 := by omega
  rw [hd] at hFa
  simp [farE, y1, y2, y10, y11, y12, hFa, hFl, hyy, hyt, hlt, hwl, getT, getT0, -getElem?_pos, List.getElem?_cons_zero, List.getElem?_cons_succ]
  refine b4_walk24 (ps := qs) hql hw100 (by exact hv4) (by simp [y10, hWC]) (by simp) (by simp) hgo fun fr3 ⟨u0, u1, u2, u3, u10, u11⟩ u17 => ?_
  simp [y0, y1, y2, y3, y10, y11, z3] at u0 u1 u2 u3 u10 u11
  simp
  refine b6_walk24 (l := l) (by omega) (by simp [u3, hCL]) (by simp) (by simp) fun fr4 ⟨t1, t2, t3, t11, t17, t21⟩ t22 => ?_
  simp [u1, u2, u3, u11, u17] at t1 t2 t3 t11 t17 t21
  obtain ⟨m, hm, hm20, hfree⟩ := least_ok (L := r9 l) (by unfold r9; rw [List.length_map]; omega)
  have hr9 : (r9 l).length = l.length := List.length_map ..
  rw [hr9] at hm
  rw [hm] at t22
  simp
  refine b7_walk24 (l := l) (m := m) ⟨by omega, by omega⟩ (by omega) (by simp [t3, hCL]) (by simp [t21]) (by simp [t22]) (by simp) fun fr5 G5 ⟨s1, s2, s11, s17, s22⟩ sv => ?_
  simp [t1, t2, t11, t17, t22] at s1 s2 s11 s17 s22
  obtain ⟨tl2, hres2, htv2⟩ := sv.use
  have hfr : sp2 cI cVa.lst freeP [.int .i64 3, .lst ((forbV m l).map Va.enc)] = some (Va.enc ⟨3, false, zF, m⟩) := by
   refine (sp2_at (A := cI) (B := cVa.lst) (x := 3) (y := forbV m l) trivial (forbV_wf m l)).trans ?_
   unfold freeP freeF
   rw [forbV_els, hfree]
  have hval : sp2 cI cI valP [.int .i64 3, .int .i64 m] = some (Va.enc ⟨3, false, zF, m⟩) := (sp2_at (A := cI) (B := cI) (x := 3) (y := m) trivial trivial).trans (if_pos ⟨by omega, by omega⟩)
  have hzw : zF.wf := ⟨by intro y hy; simp [zF] at hy, by intro y hy; simp [zF] at hy⟩
  have hsame : sp2 cVa cVa sameVP [Va.enc ⟨3, false, zF, m⟩, Va.enc ⟨3, false, zF, m⟩] = some (.bool true) := by
   refine (sp2_at (A := cVa) (B := cVa) (x := ⟨3, false, zF, m⟩) (y := ⟨3, false, zF, m⟩) hzw hzw).trans ?_
   unfold sameVP
   rw [sameV_refl]
  obtain ⟨VC, hVC⟩ : ∃ t, t = (forbV m l).map Va.enc := ⟨_, rfl⟩
  obtain ⟨VR, hVR⟩ : ∃ t, t = Va.enc ⟨3, false, zF, m⟩ := ⟨_, rfl⟩
  rw [← hVC] at hres2 hfr
  rw [← hVR] at hfr hval hsame
  simp [s1, s2, s11, s17, s22, hres2, htv2, hfr, hval, hsame, sAwk, Tw24_mu, Tw24_fns]
 ·simp [farE, y1, y2, y10, y11, y12, hFa, hFl, hyy, hyt, hd, getT, getT0, -getElem?_pos, List.getElem?_cons_zero, List.getElem?_cons_succ]
  refine b4_walk24 (ps := qs) hql hw100 (by exact hv4) (by simp [y10, hWC]) (by simp) (by simp) hgo fun fr3 ⟨u0, u1, u2, u3, u10, u11⟩ u17 => ?_
  simp [y0, y1, y2, y3, y10, y11, z3] at u0 u1 u2 u3 u10 u11
  simp
  refine b6_walk24 (l := l) (by omega) (by simp [u3, hCL]) (by simp) (by simp) fun fr4 ⟨t1, t2, t3, t11, t17, t21⟩ t22 => ?_
  simp [u1, u2, u3, u11, u17] at t1 t2 t3 t11 t17 t21
  obtain ⟨m, hm, hm20, hfree⟩ := least_ok (L := r9 l) (by unfold r9; rw [List.length_map]; omega)
  have hr9 : (r9 l).length = l.length := List.length_map ..
  rw [hr9] at hm
  rw [hm] at t22
  simp
  refine b7_walk24 (l := l) (m := m) ⟨by omega, by omega⟩ (by omega) (by simp [t3, hCL]) (by simp [t21]) (by simp [t22]) (by simp) fun fr5 G5 ⟨s1, s2, s11, s17, s22⟩ sv => ?_
  simp [t1, t2, t11, t17, t22] at s1 s2 s11 s17 s22
  obtain ⟨tl2, hres2, htv2⟩ := sv.use
  have hfr : sp2 cI cVa.lst freeP [.int .i64 3, .lst ((forbV m l).map Va.enc)] = some (Va.enc ⟨3, false, zF, m⟩) := by
   refine (sp2_at (A := cI) (B := cVa.lst) (x := 3) (y := forbV m l) trivial (forbV_wf m l)).trans ?_
   unfold freeP freeF
   rw [forbV_els, hfree]
  have hval : sp2 cI cI valP [.int .i64 3, .int .i64 m] = some (Va.enc ⟨3, false, zF, m⟩) := (sp2_at (A := cI) (B := cI) (x := 3) (y := m) trivial trivial).trans (if_pos ⟨by omega, by omega⟩)
  have hzw : zF.wf := ⟨by intro y hy; simp [zF] at hy, by intro y hy; simp [zF] at hy⟩
  have hsame : sp2 cVa cVa sameVP [Va.enc ⟨3, false, zF, m⟩, Va.enc ⟨3, false, zF, m⟩] = some (.bool true) := by
   refine (sp2_at (A := cVa) (B := cVa) (x := ⟨3, false, zF, m⟩) (y := ⟨3, false, zF, m⟩) hzw hzw).trans ?_
   unfold sameVP
   rw [sameV_refl]
  obtain ⟨VC, hVC⟩ : ∃ t, t = (forbV m l).map Va.enc := ⟨_, rfl⟩
  obtain ⟨VR, hVR⟩ : ∃ t, t = Va.enc ⟨3, false, zF, m⟩ := ⟨_, rfl⟩
  rw [← hVC] at hres2 hfr
  rw [← hVR] at hfr hval hsame
  simp [s1, s2, s11, s17, s22, hres2, htv2, hfr, hval, hsame, sAwk, Tw24_mu, Tw24_fns]
end Go.Proofs.YtgbjjikaenlkmaaGreat
