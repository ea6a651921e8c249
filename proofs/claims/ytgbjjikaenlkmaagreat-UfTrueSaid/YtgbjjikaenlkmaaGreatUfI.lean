/-
  The lemmas of two applications on all the values that the law lets them have; does one of a clause's literals hold. No conditions beyond the lemmas' own hypotheses.
-/
import Derived.Test.YtgbjjikaenlkmaaGreatUfB
import Derived.Test.YtgbjjikaenlkmaaGreatLinC
set_option linter.unusedSimpArgs false
set_option linter.unnecessarySimpa false
set_option linter.unusedVariables false
set_option linter.constructorNameAsVariable false

namespace Go.Proofs.YtgbjjikaenlkmaaGreat
open Go Go.Abs Go.Limbs
set_option maxRecDepth 20000
def bindsF (gs : List Gv) (p : Po) : List Bd := p.ps.map fun x => ⟨x.t, (qc x.t gs).x⟩
def ep (gs : List Gv) (a : At) : Bool := if a.k = 6 then (qc a.a gs).b else if a.k = 5 then uM (qc a.a gs) (qc a.b gs) else (uS (jc (bindsF gs a.p)) a).1
def bD (ls : List Li) (gs : List Gv) : Bool := ls.any fun x => ep gs x.a != x.no
abbrev Tri := Int × Int × Int
def qW : Int → List Tri → List Vr
 | _, [] => []
 | i, t :: r => ⟨i, t.1⟩ :: qW (i + 1) r
def yn : Int → List Tri → List Int
 | _, [] => []
 | i, _ :: r => i :: yn (i + 1) r
def m7 : Int → Int → List Tri → List Gv
 | _, _, [] => []
 | i, j, t :: r => ⟨i, qj t.1 t.2.1⟩ :: ⟨j, qj t.1 t.2.2⟩ :: m7 (i + 1) (j + 1) r
def t4 (L : List Tri) (r : Int) : List Vr := ⟨1, r⟩ :: ⟨2, r⟩ :: (qW 10 L ++ qW 20 L)
def kF (i j : Int) (L : List Tri) : Md := ⟨i, [102], yn j L⟩
def yo (L : List Tri) (r fx fy : Int) : List Gv := m7 10 20 L ++ [⟨1, qj r fx⟩, ⟨2, qj r fy⟩]
def liFew (x : Li) : Bool := x.a.p.few && decide (x.a.p.ps.length ≤ 1000)
def chk (L : List Tri) (r fx fy : Int) : Bool := match m5 (t4 L r) (kF 1 10 L) (kF 2 20 L) with
 | some (l, m) => (match bk [kF 1 10 L, kF 2 20 L] (yo L r fx fy) with
  | some (.tup [.int .i64 0, .int .i64 0, .bool false]) => (decide (r = 0) == !m.isEmpty) && l.all liFew && m.all liFew && bD l (yo L r fx fy) && (m.isEmpty || bD m (yo L r fx fy))
  | _ => false)
 | none => false
def tris : List Tri := [(1, 0, 0), (1, 0, 1), (1, 1, 0), (1, 1, 1), (2, 0, 0), (2, 0, 1), (2, 1, 0), (2, 1, 1)]
def sM : Nat → List (List Tri)
 | 0 => [[]]
 | n + 1 => tris.flatMap fun t => (sM n).map fun l => t :: l
def oks (r : Int) (L : List Tri) : Bool := [((0 : Int), (0 : Int)), (0, 1), (1, 0), (1, 1)].all fun f => (L.all (fun t => decide (t.2.1 = t.2.2)) && decide (f.1 ≠ f.2)) || chk L r f.1 f.2
def tU (n : Nat) (r : Int) : Bool := (sM n).all (oks r)
theorem oks1 : (tU 1 0 && tU 1 1 && tU 1 2) = true := by kernel_rfl
theorem oks2 : (tU 2 0 && tU 2 1 && tU 2 2) = true := by kernel_rfl
theorem oks30 : tU 3 0 = true := by kernel_rfl
theorem oks31 : tU 3 1 = true := by kernel_rfl
theorem oks32 : tU 3 2 = true := by kernel_rfl
theorem xB : ∀ {L : List Tri}, (∀ t ∈ L, t ∈ tris) → L ∈ sM L.length
 | [], _ => by simp [sM]
 | t :: L, h => by
  have h1 := xB (L := L) (fun x hx => h x (by simp [hx]))
  show t :: L ∈ tris.flatMap fun t => (sM L.length).map fun l => t :: l
  exact List.mem_flatMap.2 ⟨t, h t (by simp), List.mem_map.2 ⟨L, h1, rfl⟩⟩
theorem chk_ok {L : List Tri} {r fx fy : Int} (hL : ∀ t ∈ L, t ∈ tris) (h1 : 1 ≤ L.length) (h3 : L.length ≤ 3) (hr : r = 0 ∨ r = 1 ∨ r = 2) (hx : fx = 0 ∨ fx = 1) (hy : fy = 0 ∨ fy = 1) (he : (∀ t ∈ L, t.2.1 = t.2.2) → fx = fy) : chk L r fx fy = true := by
 have hm := xB hL
 have hok : tU L.length r = true := by
  have hn : L.length = 1 ∨ L.length = 2 ∨ L.length = 3 := by omega
  have o1 := oks1
  have o2 := oks2
  simp only [Bool.and_eq_true] at o1 o2
  rcases hn with h | h | h <;> rw [h] <;> rcases hr with rfl | rfl | rfl
  ·exact o1.1.1
  ·exact o1.1.2
  ·exact o1.2
  ·exact o2.1.1
  ·exact o2.1.2
  ·exact o2.2
  ·exact oks30
  ·exact oks31
  ·exact oks32
 have h4 : oks r L = true := List.all_eq_true.1 hok L hm
 have h5 := List.all_eq_true.1 h4 (fx, fy) (by rcases hx with rfl | rfl <;> rcases hy with rfl | rfl <;> simp)
 simp only [Bool.or_eq_true, Bool.and_eq_true, List.all_eq_true, decide_eq_true_eq] at h5
 rcases h5 with ⟨h5, h6⟩ | h5
 ·exact absurd (he h5) h6
 ·exact h5
end Go.Proofs.YtgbjjikaenlkmaaGreat

namespace Go.Proofs.YtgbjjikaenlkmaaGreat
open Go Go.Abs Go.Limbs
variable {base : Prot}
set_option maxRecDepth 20000
attribute [local irreducible] vc
attribute [local simp] za zi freezeL fuel zk u64 au
def Ttr24 : Tab := ((Tab.none.with 16 (za (sp2 cGv.lst cI sL))).with 13 (za (sp2 cVa cVa ke))).with 26 (za yJ)
theorem Ttr24_ok : TabOk Tryz.prog base Ttr24 := Tab.with_ok (Tab.with_ok (Tab.with_ok Tab.none_ok look_ok) rsamev_ok) rholds_ok
theorem kL (f : FuncId) (a : List AVal) (H : zb) : Ttr24.mu f a H = none := (rfl)
theorem jH : Ttr24.fn 16 = (za (sp2 cGv.lst cI sL)) ∧ Ttr24.fn 13 = (za (sp2 cVa cVa ke)) ∧ Ttr24.fn 26 = (za yJ) := ⟨rfl, rfl, rfl⟩
def VB (G : zb) (N : Nat) (v : AVal) (L : List Bd) : Prop := (L = [] ∧ v = .tight []) ∨ ∃ k w, N < k ∧ v = .own k 0 L.length w ∧ G[k]? = some ⟨4, w, false, (L.map Bd.enc).map .p, 95⟩
def kK (gs : List Gv) (x : Pa) : Bd := ⟨x.t, (qc x.t gs).x⟩
theorem b0_true {Q : LExit → AFr → zb → Prop} {fr : AFr} {G : zb} {a : At} {gs : List Gv} {N : Nat} (wg : cGv.wfL gs) (hlen : a.p.ps.length ≤ 1000) (hN : G[N]? = some ⟨7, 0, false, [.p (.agg a.cells)], 78⟩) (f1 : fr 1 = .p (.lst (gs.map cGv.enc))) (f6 : fr 6 = .optr N 0 0 0) (f8 : fr 8 = .tight []) (f9 : fr 9 = .p (.int .i64 0))
  (hQ : ∀ fr' G', (fr' 0 = fr 0 ∧ fr' 1 = fr 1 ∧ fr' 5 = fr 5 ∧ fr' 6 = fr 6) → G'[N]? = some ⟨7, 0, false, [.p (.agg a.cells)], 78⟩ → VB G' N (fr' 8) (a.p.ps.map (kK gs)) → Q .normal fr' G') : vc Ttr24 lf11_B0 Q fr G := by
 simp only [lf11_B0, zr]
 refine zo (fun fr' G' => ∃ (i : Nat), i ≤ a.p.ps.length ∧ (fr' 0 = fr 0 ∧ fr' 1 = fr 1 ∧ fr' 5 = fr 5 ∧ fr' 6 = fr 6) ∧ G'[N]? = some ⟨7, 0, false, [.p (.agg a.cells)], 78⟩ ∧ fr' 9 = .p (.int .i64 i) ∧ VB G' N (fr' 8) ((a.p.ps.take i).map (kK gs))) (fun fr' _ => a.p.ps.length - zD (fr' 9)) ⟨0, by omega, ⟨rfl, rfl, rfl, rfl⟩, hN, f9, .inl ⟨rfl, f8⟩⟩ ?_
 rintro fr1 G1 ⟨i, hi, ⟨z0, z1, z5, z6⟩, kN, k9, hv⟩
 rw [f1] at z1
 rw [f6] at z6
 have hnl := (List.getElem?_eq_some_iff.1 kN).1
 have hpl : (a.p.ps.map Pa.enc).length = a.p.ps.length := List.length_map ..
 have hac : a.cells = [.int .i64 a.k, .lst (a.p.ps.map Pa.enc), .bool a.p.c.s, .lst (a.p.c.n.map u64), .lst (a.p.c.d.map u64), .int .i64 a.a, .int .i64 a.b] := rfl
 by_cases h : i < a.p.ps.length
 ·obtain ⟨x, hx⟩ : ∃ x, a.p.ps[i]? = some x := ⟨_, List.getElem?_eq_getElem h⟩
  have hts : (a.p.ps.take (i + 1)).map (kK gs) = (a.p.ps.take i).map (kK gs) ++ [kK gs x] := by
   rw [List.take_add_one, hx, List.map_append]; rfl
  have hw := zs (i := i) (by omega)
  have hmm : a.p.ps.length - (i + 1) < a.p.ps.length - i := by omega
  have hfl : ((a.p.ps.take i).map (kK gs)).length = i := by simp; omega
  have hfl2 : ((a.p.ps.take (i + 1)).map (kK gs)).length = i + 1 := by simp; omega
  have hxe : (a.p.ps.map Pa.enc)[i]? = some (.agg [.bool x.c.s, .lst (x.c.n.map u64), .lst (x.c.d.map u64), .int .i64 x.t]) := by rw [List.getElem?_map, hx]; rfl
  have hlk : sp2 cGv.lst cI sL [.lst (gs.map cGv.enc), .int .i64 x.t] = some (.agg [.int .i64 (qc x.t gs).k, .bool (qc x.t gs).b, .bool (qc x.t gs).x.s, .lst ((qc x.t gs).x.n.map u64), .lst ((qc x.t gs).x.d.map u64), .int .i64 (qc x.t gs).el]) := (vD (A := cGv.lst) (B := cI) (x := gs) (y := x.t) wg trivial)
  have hbe : (kK gs x).enc = .agg [.int .i64 x.t, .bool (qc x.t gs).x.s, .lst ((qc x.t gs).x.n.map u64), .lst ((qc x.t gs).x.d.map u64)] := rfl
  have hel : ((a.p.ps.take (i + 1)).map (kK gs)).map Bd.enc = ((a.p.ps.take i).map (kK gs)).map Bd.enc ++ [.agg [.int .i64 x.t, .bool (qc x.t gs).x.s, .lst ((qc x.t gs).x.n.map u64), .lst ((qc x.t gs).x.d.map u64)]] := by rw [hts, List.map_append, ← hbe]; rfl
  have hmx : maxLen = 9223372036854775807 := rfl
  rw [hac] at kN
  obtain ⟨PS, hPS⟩ : ∃ t, t = a.p.ps.map Pa.enc := ⟨_, rfl⟩
  obtain ⟨GL, hGL⟩ : ∃ t, t = gs.map cGv.enc := ⟨_, rfl⟩
  obtain ⟨LV, hLV⟩ : ∃ t, t = qc x.t gs := ⟨_, rfl⟩
  rw [← hPS] at hxe hpl kN
  rw [← hGL] at hlk z1 f1
  rw [← hLV] at hlk hel
  obtain ⟨XN, hXN⟩ : ∃ t, t = LV.x.n.map u64 := ⟨_, rfl⟩
  obtain ⟨XD, hXD⟩ : ∃ t, t = LV.x.d.map u64 := ⟨_, rfl⟩
  rw [← hXN, ← hXD] at hlk hel
  have hA : ∀ Y, (G1 ++ Y)[N]? = some ⟨7, 0, false, [.p (.agg [.int .i64 a.k, .lst PS, .bool a.p.c.s, .lst (a.p.c.n.map u64), .lst (a.p.c.d.map u64), .int .i64 a.a, .int .i64 a.b])], 78⟩ := fun Y => by rw [List.getElem?_append_left hnl]; exact kN
  rcases hv with ⟨hnil, k8⟩ | ⟨kk, w, hkN, k8, kg⟩
  ·have hi0 : i = 0 := by rw [hnil] at hfl; simpa using hfl.symm
   subst hi0
   simp only [List.take_zero, List.map_nil, List.nil_append] at hel
   have h1m : 1 ≤ maxLen := by rw [hmx]; omega
   simp [z6, k9, kN, h, hpl, -getElem?_pos, List.getElem?_cons_zero]
   rw [zu]
   refine ⟨[], ?_⟩
   simp [z1, z6, k8, k9, kN, hA, hnl, hxe, hlk, h1m, zN, qA, qt, kL, jH, -getElem?_pos, List.getElem?_cons_zero]
   have hVB : ∀ G', G'[G1.length + 1]? = some ⟨4, 0, false, [.p (.agg [.int .i64 x.t, .bool LV.x.s, .lst XN, .lst XD])], 95⟩ → VB G' N (.own (G1.length + 1) 0 1 0) (List.take 1 (List.map (kK gs) a.p.ps)) := fun G' hg => by
    rw [← List.map_take]
    exact .inr ⟨G1.length + 1, 0, by omega, by rw [hfl2], by rw [hel]; exact hg⟩
   exact ⟨⟨1, by omega, ⟨z0, f1.symm, z5, f6.symm⟩, by rw [hac, hPS], by decide, hVB _ (by rw [bd]; rfl)⟩, by
    have h0 : 0 < a.p.ps.length := h
    show a.p.ps.length - 1 < a.p.ps.length - 0
    omega⟩
  ·have hkl := (List.getElem?_eq_some_iff.1 kg).1
   rw [hfl] at k8
   have hne : kk ≠ N := by omega
   have hK : ∀ Y, (G1 ++ Y)[kk]? = some ⟨4, w, false, (((a.p.ps.take i).map (kK gs)).map Bd.enc).map .p, 95⟩ := fun Y => by rw [List.getElem?_append_left hkl]; exact kg
   obtain ⟨X, hX⟩ : ∃ t : List AVal, t = [.p (.agg [.int .i64 x.t, .bool LV.x.s, .lst XN, .lst XD])] := ⟨_, rfl⟩
   have hXl : X.length = 1 := by rw [hX]; rfl
   have hEl : ((((a.p.ps.take i).map (kK gs)).map Bd.enc).map AVal.p).length = i := by rw [List.length_map, List.length_map, hfl]
   have hnew : ((((a.p.ps.take (i + 1)).map (kK gs)).map Bd.enc).map AVal.p) = ((((a.p.ps.take i).map (kK gs)).map Bd.enc).map AVal.p) ++ X := by rw [hel, List.map_append, hX]; rfl
   have a1 : ∀ z, qC 4 64 95 (.own kk 0 i w) X (G1 ++ [z]) = some (.own kk 0 (i + 1) (w + 1), (G1 ++ [z]).set kk ⟨4, w + 1, false, (((a.p.ps.take (i + 1)).map (kK gs)).map Bd.enc).map AVal.p, 95⟩) := fun z => by
    rw [mn (size := 4) (ver := w) (fz := false) (els := (((a.p.ps.take i).map (kK gs)).map Bd.enc).map AVal.p) (hK _) (by rw [hX]; rfl) (by omega) hEl.symm (by rw [hEl, hXl]; omega) (by rw [hEl, hXl, hmx]; omega), hXl, hnew]
   have hVB : ∀ z, VB ((G1 ++ [z]).set kk ⟨4, w + 1, false, (((a.p.ps.take (i + 1)).map (kK gs)).map Bd.enc).map AVal.p, 95⟩) N (.own kk 0 (i + 1) (w + 1)) (List.take (i + 1) (List.map (kK gs) a.p.ps)) := fun z => by
    rw [← List.map_take]
    exact .inr ⟨kk, w + 1, hkN, by rw [hfl2], List.getElem?_set_self (by rw [List.length_append]; omega)⟩
   have hN2 : ∀ z e, ((G1 ++ [z]).set kk e)[N]? = some ⟨7, 0, false, [.p (.agg [.int .i64 a.k, .lst PS, .bool a.p.c.s, .lst (a.p.c.n.map u64), .lst (a.p.c.d.map u64), .int .i64 a.a, .int .i64 a.b])], 78⟩ := fun z e => by rw [List.getElem?_set_ne hne]; exact hA _
   obtain ⟨EL, hEL⟩ : ∃ t, t = (((a.p.ps.take (i + 1)).map (kK gs)).map Bd.enc).map AVal.p := ⟨_, rfl⟩
   rw [← hEL] at a1 hVB
   subst hX
   simp [z6, k9, kN, h, hpl, -getElem?_pos, List.getElem?_cons_zero]
   rw [zu]
   refine ⟨[], ?_⟩
   simp [-qC, z1, z6, k8, k9, kN, hnl, hxe, hlk, hw, a1, hN2, zN, qA, qt, kL, jH, -getElem?_pos, List.getElem?_cons_zero]
   exact ⟨⟨i + 1, by omega, ⟨z0, f1.symm, z5, f6.symm⟩, by rw [hac, hPS], rfl, hVB _⟩, by simpa [zD] using hmm⟩
 ·have hil : i = a.p.ps.length := by omega
  subst hil
  rw [List.take_of_length_le (Nat.le_refl _)] at hv
  have kN' := kN
  rw [hac] at kN'
  obtain ⟨PS, hPS⟩ : ∃ t, t = a.p.ps.map Pa.enc := ⟨_, rfl⟩
  rw [← hPS] at hpl kN'
  simp [z6, k9, kN', hpl, -getElem?_pos, List.getElem?_cons_zero]
  exact hQ _ _ ⟨by simp [z0], by simp [z1, f1], by simp [z5], by simp [z6, f6]⟩ kN (by simpa using hv)
theorem VB.use {G : zb} {N : Nat} {v : AVal} {L : List Bd} (h : VB G N v L) : ∃ tl, zj G 8 v = some (.lst (L.map Bd.enc)) ∧ zi G 8 v = tl := by
 rcases h with ⟨rfl, h⟩ | ⟨kk, ww, -, h, hg⟩
 ·subst h
  exact ⟨_, rfl, rfl⟩
 ·subst h
  have hl : ((L.map Bd.enc).map AVal.p).length = L.length := by simp
  have ht : (((L.map Bd.enc).map AVal.p).take L.length) = (L.map Bd.enc).map AVal.p := List.take_of_length_le (by omega)
  refine ⟨_, ?_, rfl⟩
  unfold zj
  simp only [hg]
  rw [if_pos ⟨trivial, by rw [hl]; omega⟩, List.drop_zero, ht, vV]
def u2 (ls : List Li) (gs : List Gv) : Option PVal := if ls.all liFew = true ∧ ls.length ≤ 1000000 then some (.bool (bD ls gs)) else none
theorem wf_bdOf {gs : List Gv} (wg : cGv.wfL gs) (l : List Pa) : wfB (l.map (kK gs)) := by
 intro b hb
 obtain ⟨x, -, rfl⟩ := List.mem_map.1 hb
 exact gQ _ _ wg
theorem true1_ok : zG Tryz.prog base 11 (za (sp2 cLi.lst cGv.lst u2)) := by
 refine zd zB Ttr24_ok ze low11 fun args z hs hf => ?_
 obtain ⟨ls, gs, wl, wg, rfl, hz⟩ := kA hs
 unfold u2 at hz
 split at hz
 case isFalse => cases hz
 rename_i hc
 obtain ⟨hfew, hlen⟩ := hc
 cases hz
 refine ⟨by simp [lf11], ?_⟩
 have e1 : cLi.lst.enc ls = .lst (ls.map cLi.enc) := rfl
 have e2 : cGv.lst.enc gs = .lst (gs.map cGv.enc) := rfl
 rw [e1, e2]
 have hml : (ls.map cLi.enc).length = ls.length := List.length_map ..
 obtain ⟨LL, hLL⟩ : ∃ t, t = ls.map cLi.enc := ⟨_, rfl⟩
 rw [← hLL] at hml ⊢
 simp [lf11]
 simp only [lf11_B1, zr]
 refine zo (fun fr G => ∃ i : Nat, i ≤ ls.length ∧ fr 0 = .p (.lst LL) ∧ fr 1 = .p (.lst (gs.map cGv.enc)) ∧ fr 5 = .p (.int .i64 i) ∧ bD (ls.drop i) gs = bD ls gs) (fun fr _ => ls.length - zD (fr 5)) ⟨0, by omega, by simp, by simp, by simp, rfl⟩ ?_
 rintro fr G ⟨i, hi, f0, f1, f5, ht⟩
 by_cases h : i < ls.length
 ·obtain ⟨li, hli⟩ : ∃ x, ls[i]? = some x := ⟨_, List.getElem?_eq_getElem h⟩
  have hdr : ls.drop i = li :: ls.drop (i + 1) := by rw [List.drop_eq_getElem_cons h, zZ hli]
  rw [hdr] at ht
  have hw := zs (i := i) (by omega)
  have hmm : ls.length - (i + 1) < ls.length - i := by omega
  have hmem := List.mem_of_getElem? hli
  have hlf := List.all_eq_true.1 hfew li hmem
  simp only [liFew, Bool.and_eq_true, decide_eq_true_eq] at hlf
  obtain ⟨hpf, hpn⟩ := hlf
  have hwa : li.a.p.wf := wl li hmem
  have ht' : (ep gs li.a != li.no || bD (ls.drop (i + 1)) gs) = bD ls gs := by rw [← ht]; rfl
  obtain ⟨a, no⟩ := li
  simp only at hpf hpn hwa ht'
  have hac : a.cells = [.int .i64 a.k, .lst (a.p.ps.map Pa.enc), .bool a.p.c.s, .lst (a.p.c.n.map u64), .lst (a.p.c.d.map u64), .int .i64 a.a, .int .i64 a.b] := rfl
  have hle : LL[i]? = some (.agg [.int .i64 a.k, .lst (a.p.ps.map Pa.enc), .bool a.p.c.s, .lst (a.p.c.n.map u64), .lst (a.p.c.d.map u64), .int .i64 a.a, .int .i64 a.b, .bool no]) := by rw [hLL, List.getElem?_map, hli]; rfl
  have hlk : ∀ n, sp2 cGv.lst cI sL [.lst (gs.map cGv.enc), .int .i64 n] = some (qc n gs).enc := fun n => (vD (A := cGv.lst) (B := cI) (x := gs) (y := n) wg trivial)
  have hve : ∀ v : Va, v.enc = .agg [.int .i64 v.k, .bool v.b, .bool v.x.s, .lst (v.x.n.map u64), .lst (v.x.d.map u64), .int .i64 v.el] := fun _ => rfl
  have hae : a.enc = .agg [.int .i64 a.k, .lst (a.p.ps.map Pa.enc), .bool a.p.c.s, .lst (a.p.c.n.map u64), .lst (a.p.c.d.map u64), .int .i64 a.a, .int .i64 a.b] := rfl
  have hsv : sp2 cVa cVa ke [(qc a.a gs).enc, (qc a.b gs).enc] = some (.bool (uM (qc a.a gs) (qc a.b gs))) := (vD (A := cVa) (B := cVa) (x := qc a.a gs) (y := qc a.b gs) (gQ _ _ wg) (gQ _ _ wg))
  have hho : yJ [a.enc, .lst ((a.p.ps.map (kK gs)).map Bd.enc)] = some (.tup [.bool (uS (jc (a.p.ps.map (kK gs))) a).1, .int .i64 (uS (jc (a.p.ps.map (kK gs))) a).2]) := lM hwa hpf (wf_bdOf wg _)
  rw [hae] at hho
  by_cases h6 : a.k = 6
  ·have hy : ep gs a = (qc a.a gs).b := by unfold ep; rw [if_pos h6]
   have hb6 : (a.k == 6) = true := by simp [h6]
   rw [hy] at ht'
   have hl1 := hlk a.a
   rw [hve] at hl1
   obtain ⟨bb, hbb⟩ : ∃ t, t = (qc a.a gs).b := ⟨_, rfl⟩
   rw [← hbb] at ht' hl1
   cases hx : (bb != no) with
   | true =>
    have hx' : (bb == no) = false := by revert hx; cases bb <;> cases no <;> decide
    rw [hx, Bool.true_or] at ht'
    rw [← ht']
    simp [-beq_iff_eq, -beq_eq_false_iff_ne, f0, f1, f5, h, hml, hle, hb6, hl1, hx', qt, kL, jH, -getElem?_pos, List.getElem?_cons_zero]
   | false =>
    have hx' : (bb == no) = true := by revert hx; cases bb <;> cases no <;> decide
    rw [hx, Bool.false_or] at ht'
    simp [-beq_iff_eq, -beq_eq_false_iff_ne, f0, f1, f5, h, hml, hle, hb6, hl1, hx', hw, qt, kL, jH, -getElem?_pos, List.getElem?_cons_zero]
    exact ⟨⟨i + 1, by omega, rfl, ht'⟩, by simpa [zD] using hmm⟩
  ·have hb6 : (a.k == 6) = false := by simp [h6]
   by_cases h5 : a.k = 5
   ·have hy : ep gs a = uM (qc a.a gs) (qc a.b gs) := by unfold ep; rw [if_neg h6, if_pos h5]
    have hb5 : (a.k == 5) = true := by simp [h5]
    rw [hy] at ht'
    have hl1 := hlk a.a
    have hl2 := hlk a.b
    obtain ⟨bb, hbb⟩ : ∃ t, t = uM (qc a.a gs) (qc a.b gs) := ⟨_, rfl⟩
    rw [← hbb] at ht' hsv
    obtain ⟨va, hva⟩ : ∃ t, t = (qc a.a gs).enc := ⟨_, rfl⟩
    obtain ⟨vb, hvb⟩ : ∃ t, t = (qc a.b gs).enc := ⟨_, rfl⟩
    rw [← hva] at hl1 hsv
    rw [← hvb] at hl2 hsv
    cases hx : (bb != no) with
    | true =>
     have hx' : (bb == no) = false := by revert hx; cases bb <;> cases no <;> decide
     rw [hx, Bool.true_or] at ht'
     rw [← ht']
     simp [-beq_iff_eq, -beq_eq_false_iff_ne, f0, f1, f5, h, hml, hle, hb6, hb5, hl1, hl2, hsv, hx', qt, kL, jH, -getElem?_pos, List.getElem?_cons_zero]
    | false =>
     have hx' : (bb == no) = true := by revert hx; cases bb <;> cases no <;> decide
     rw [hx, Bool.false_or] at ht'
     simp [-beq_iff_eq, -beq_eq_false_iff_ne, f0, f1, f5, h, hml, hle, hb6, hb5, hl1, hl2, hsv, hx', hw, qt, kL, jH, -getElem?_pos, List.getElem?_cons_zero]
     exact ⟨⟨i + 1, by omega, rfl, ht'⟩, by simpa [zD] using hmm⟩
   ·have hy : ep gs a = (uS (jc (a.p.ps.map (kK gs))) a).1 := by unfold ep; rw [if_neg h6, if_neg h5]; rfl
    have hb5 : (a.k == 5) = false := by simp [h5]
    rw [hy] at ht'
    obtain ⟨bb, hbb⟩ : ∃ t, t = (uS (jc (a.p.ps.map (kK gs))) a).1 := ⟨_, rfl⟩
    rw [← hbb] at ht' hho
    simp [f0, f5, h, hml, hle, hb6, hb5, qt, -getElem?_pos, List.getElem?_cons_zero]
    refine b0_true (a := a) (gs := gs) (N := G.length) wg hpn (by rw [qt]; rfl) (by simp [f1]) (by simp) (by simp) (by simp) fun fr2 G2 ⟨y0, y1, y5, y6⟩ gN hv => ?_
    simp [f0, f1, f5] at y0 y1 y5 y6
    obtain ⟨tl, hres, htv⟩ := hv.use
    rw [hac] at gN
    cases hx : (bb != no) with
    | true =>
     have hx' : (bb == no) = false := by revert hx; cases bb <;> cases no <;> decide
     rw [hx, Bool.true_or] at ht'
     rw [← ht']
     simp [-beq_iff_eq, -beq_eq_false_iff_ne, -List.map_map, y0, y5, y6, gN, hres, htv, hho, hle, hx', kL, jH, -getElem?_pos, List.getElem?_cons_zero, List.getElem?_cons_succ]
    | false =>
     have hx' : (bb == no) = true := by revert hx; cases bb <;> cases no <;> decide
     rw [hx, Bool.false_or] at ht'
     simp [-beq_iff_eq, -beq_eq_false_iff_ne, -List.map_map, y0, y1, y5, y6, gN, hres, htv, hho, hle, hx', hw, kL, jH, -getElem?_pos, List.getElem?_cons_zero, List.getElem?_cons_succ]
     exact ⟨⟨i + 1, by omega, rfl, ht'⟩, by simpa [zD] using hmm⟩
 ·have hil : i = ls.length := by omega
  subst hil
  rw [List.drop_of_length_le (Nat.le_refl _)] at ht
  rw [← ht]
  simp [f0, f5, hml, bD]
end Go.Proofs.YtgbjjikaenlkmaaGreat
