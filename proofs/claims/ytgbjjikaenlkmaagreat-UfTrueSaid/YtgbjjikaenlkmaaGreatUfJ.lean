/-
  UfTrue answers true on all values. No conditions.
-/
import Derived.Test.YtgbjjikaenlkmaaGreatUfB
import Derived.Test.YtgbjjikaenlkmaaGreatUfI
set_option linter.unusedSimpArgs false
set_option linter.unnecessarySimpa false
set_option linter.unusedVariables false
set_option linter.constructorNameAsVariable false

namespace Go.Proofs.YtgbjjikaenlkmaaGreat
open Go Go.Abs Go.Limbs
variable {base : Prot}
set_option maxRecDepth 20000
attribute [local irreducible] vc
attribute [local simp] za zi freezeL fuel zk u64 au
def Tu24 : Tab := (((((Tab.none.with 7 (za gz)).with 6 (za gG)).with 8 (za (sp2 cI cI pB))).with 9 (za (sp3 cVr.lst cMd cMd bW))).with 10 (za (sp2 cMd.lst cGv.lst bk))).with 11 (za (sp2 cLi.lst cGv.lst u2))
theorem Tu24_ok : TabOk Tryz.prog base Tu24 := Tab.with_ok (Tab.with_ok (Tab.with_ok (Tab.with_ok (Tab.with_ok (Tab.with_ok Tab.none_ok roundN_ok) awake24_ok) value_ok') aW) tM) true1_ok
theorem qM (f : FuncId) (a : List AVal) (H : zb) : Tu24.mu f a H = none := (rfl)
theorem qi : Tu24.fn 7 = (za gz) ∧ Tu24.fn 6 = (za gG) ∧ Tu24.fn 8 = (za (sp2 cI cI pB)) ∧ Tu24.fn 9 = (za (sp3 cVr.lst cMd cMd bW)) ∧ Tu24.fn 10 = (za (sp2 cMd.lst cGv.lst bk)) ∧ Tu24.fn 11 = (za (sp2 cLi.lst cGv.lst u2)) := ⟨rfl, rfl, rfl, rfl, rfl, rfl⟩
def qQ : List Int → List Int → List Int → List Tri
 | s :: ss, a :: al, m :: ml => (1 + s % 2, a % 2, m % 2) :: qQ ss al ml
 | _, _, _ => []
theorem gd : ∀ {ss al ml : List Int}, ss.length ≤ al.length → ss.length ≤ ml.length → (qQ ss al ml).length = ss.length
 | [], _, _, _, _ => by simp [qQ]
 | s :: ss, [], _, h, _ => by simp at h
 | s :: ss, a :: al, [], _, h => by simp at h
 | s :: ss, a :: al, m :: ml, h1, h2 => by
  simp only [qQ, List.length_cons] at h1 h2 ⊢
  rw [gd (by omega) (by omega)]
theorem ge : ∀ {ss al ml : List Int} {i : Nat} {s a m : Int}, ss[i]? = some s → al[i]? = some a → ml[i]? = some m → (qQ ss al ml)[i]? = some (1 + s % 2, a % 2, m % 2)
 | [], _, _, _, _, _, _, h, _, _ => by simp at h
 | _ :: _, [], _, _, _, _, _, _, h, _ => by simp at h
 | _ :: _, _ :: _, [], _, _, _, _, _, _, h => by simp at h
 | s :: ss, a :: al, m :: ml, 0, _, _, _, h1, h2, h3 => by
  simp at h1 h2 h3
  subst h1 h2 h3
  rfl
 | s :: ss, a :: al, m :: ml, i + 1, _, _, _, h1, h2, h3 => by
  simp only [qQ, List.getElem?_cons_succ] at h1 h2 h3 ⊢
  exact ge h1 h2 h3
theorem gb : ∀ {ss al ml : List Int}, ∀ t ∈ qQ ss al ml, t ∈ tris
 | [], _, _, t, h => by simp [qQ] at h
 | _ :: _, [], _, t, h => by simp [qQ] at h
 | _ :: _, _ :: _, [], t, h => by simp [qQ] at h
 | s :: ss, a :: al, m :: ml, t, h => by
  rcases List.mem_cons.1 h with rfl | h
  ·have h1 : s % 2 = 0 ∨ s % 2 = 1 := by omega
   have h2 : a % 2 = 0 ∨ a % 2 = 1 := by omega
   have h3 : m % 2 = 0 ∨ m % 2 = 1 := by omega
   rcases h1 with h1 | h1 <;> rcases h2 with h2 | h2 <;> rcases h3 with h3 | h3 <;> rw [h1, h2, h3] <;> decide
  ·exact gb t h
theorem rj (t : Tri) : ∀ (l : List Tri) (j : Int), qW j (l ++ [t]) = qW j l ++ [⟨j + l.length, t.1⟩]
 | [], j => by simp [qW]
 | x :: l, j => by
  simp only [List.cons_append, qW, rj t l, List.length_cons]
  congr 4
  omega
theorem cw : ∀ (l : List Tri) (j : Int), (qW j l).length = l.length
 | [], _ => rfl
 | _ :: l, j => by simp only [qW, List.length_cons, cw l]
theorem gW : ∀ (l : List Tri) (j : Int), (yn j l).length = l.length
 | [], _ => rfl
 | _ :: l, j => by simp only [yn, List.length_cons, gW l]
theorem sT : ∀ (l : List Tri) (i j : Int), (m7 i j l).length = 2 * l.length
 | [], _, _ => rfl
 | _ :: l, i, j => by simp only [m7, List.length_cons, sT l]; omega
theorem givA_wf : ∀ (l : List Tri) (i j : Int), cGv.wfL (m7 i j l)
 | [], _, _ => by intro x hx; cases hx
 | t :: l, i, j => by
  intro x hx
  rcases List.mem_cons.1 hx with rfl | hx
  ·exact fc _ _
  ·rcases List.mem_cons.1 hx with rfl | hx
   ·exact fc _ _
   ·exact givA_wf l _ _ x hx
def xN (l : List Tri) : Int := l.foldl (fun x t => 2 * x + t.2.1) 0
def yN (l : List Tri) : Int := l.foldl (fun x t => 2 * x + t.2.2) 0
theorem xN_bd {L : List Tri} (hL : ∀ t ∈ L, t ∈ tris) (h3 : L.length ≤ 3) : ∀ i, 0 ≤ xN (L.take i) ∧ xN (L.take i) ≤ 7 ∧ 0 ≤ yN (L.take i) ∧ yN (L.take i) ≤ 7 := by
 have h01 : ∀ t ∈ L, 0 ≤ t.2.1 ∧ t.2.1 ≤ 1 ∧ 0 ≤ t.2.2 ∧ t.2.2 ≤ 1 := fun t ht => by
  have := hL t ht
  simp only [tris, List.mem_cons, List.not_mem_nil, or_false] at this
  rcases this with rfl | rfl | rfl | rfl | rfl | rfl | rfl | rfl <;> decide
 match L, h3, h01 with
 | [], _, _ => intro i; simp [xN, yN]
 | [a], _, h01 =>
  have h1 := h01 a (by simp)
  intro i
  match i with
  | 0 => simp [xN, yN]
  | i + 1 => simp [xN, yN]; omega
 | [a, b], _, h01 =>
  have h1 := h01 a (by simp)
  have h2 := h01 b (by simp)
  intro i
  match i with
  | 0 => simp [xN, yN]
  | 1 => simp [xN, yN]; omega
  | i + 2 => simp [xN, yN]; omega
 | [a, b, c], _, h01 =>
  have h1 := h01 a (by simp)
  have h2 := h01 b (by simp)
  have h3 := h01 c (by simp)
  intro i
  match i with
  | 0 => simp [xN, yN]
  | 1 => simp [xN, yN]; omega
  | 2 => simp [xN, yN]; omega
  | i + 3 => simp [xN, yN]; omega
 | _ :: _ :: _ :: _ :: _, h3, _ => simp at h3
theorem xN_eq {L : List Tri} (h : ∀ t ∈ L, t.2.1 = t.2.2) : xN L = yN L := by
 have key : ∀ (L : List Tri) (x : Int), (∀ t ∈ L, t.2.1 = t.2.2) → L.foldl (fun x t => 2 * x + t.2.1) x = L.foldl (fun x t => 2 * x + t.2.2) x := fun L => by
  induction L with
  | nil => intro x _; rfl
  | cons t l ih =>
   intro x h
   rw [List.foldl_cons, List.foldl_cons, h t (by simp)]
   exact ih _ (fun u hu => h u (by simp [hu]))
 exact key L 0 h
def v2 (r : Int) (l : List Vr) : List Vr := ⟨1, r⟩ :: ⟨2, r⟩ :: l
def vE (w : Nat) (l : List Vr) : Ent := ⟨2, w, false, (l.map cVr.enc).map .p, 29⟩
def iE (w : Nat) (l : List Int) : Ent := ⟨1, w, false, (iL l).map .p, 3⟩
def gE (w : Nat) (l : List Gv) : Ent := ⟨7, w, false, (l.map cGv.enc).map .p, 38⟩
def mE (i : Int) (a : AVal) : Ent := ⟨3, 0, false, [.agg [.p (.int .i64 i), .p (.str [102]), a]], 26⟩
structure Fr3 (ss al ml fl : List Int) (r : Int) (L : List Tri) (i : Nat) (fr : AFr) : Prop where
 f0 : fr 0 = .p (.lst (iL ss))
 f2 : fr 2 = .p (.lst (iL al))
 f3 : fr 3 = .p (.lst (iL ml))
 f4 : fr 4 = .p (.lst (iL fl))
 f12 : fr 12 = .optr 0 0 0 0
 f13 : fr 13 = .optr 1 0 0 0
 f14 : fr 14 = .p (.int .i64 r)
 f16 : fr 16 = .p (.int .i64 (xN (L.take i)))
 f17 : fr 17 = .p (.int .i64 (yN (L.take i)))
def St3 (r : Int) (L : List Tri) (i : Nat) (fr : AFr) (G : zb) : Prop :=
 ∃ j2 j4 j5 j6 j9 Z, G = mE 1 (.own 7 0 i (i - 1)) :: mE 2 (.own 8 0 i (i - 1)) :: j2 :: vE i (v2 r (qW 10 (L.take i))) :: j4 :: j5 :: j6 :: iE (i - 1) (yn 10 (L.take i)) :: iE (i - 1) (yn 20 (L.take i)) :: j9 :: gE (i - 1) (m7 10 20 (L.take i)) :: Z ∧
  fr 11 = .own 3 0 (2 + i) i ∧ fr 15 = .own 10 0 (2 * i) (i - 1)
theorem b0_first {Q : LExit → AFr → zb → Prop} {fr : AFr} {G : zb} {ss al ml fl : List Int} {r s0 a0 m0 : Int} {j2 : Ent} (hF : Fr3 ss al ml fl r (qQ ss al ml) 0 fr) (hs : ss[0]? = some s0) (ha : al[0]? = some a0) (hm : ml[0]? = some m0)
  (hG : G = [mE 1 (.tight []), mE 2 (.tight []), j2, vE 0 (v2 r [])]) (f11 : fr 11 = .own 3 0 2 0) (f15 : fr 15 = .tight []) (f18 : fr 18 = .p (.int .i64 0))
  (hQ : ∀ fr' G', Fr3 ss al ml fl r (qQ ss al ml) 1 fr' → St3 r (qQ ss al ml) 1 fr' G' → fr' 18 = .p (.int .i64 0) → Q .normal fr' G') :
  vc Tu24 (match lf3_B0 with | .block _ (.loop (.seq _ (.seq (.block _ b) _))) => b | _ => .skip) Q fr G := by
 obtain ⟨f0, f2, f3, f4, f12, f13, f14, f16, f17⟩ := hF
 have g0 : (iL ss)[0]? = some (.int .i64 s0) := by unfold iL; rw [List.getElem?_map, hs]; rfl
 have g2 : (iL al)[0]? = some (.int .i64 a0) := by unfold iL; rw [List.getElem?_map, ha]; rfl
 have g3 : (iL ml)[0]? = some (.int .i64 m0) := by unfold iL; rw [List.getElem?_map, hm]; rfl
 have r0 := qx (k := s0) (n := 2) (by omega) (by omega)
 have r1 := qx (k := a0) (n := 2) (by omega) (by omega)
 have r2 := qx (k := m0) (n := 2) (by omega) (by omega)
 have ht : (qQ ss al ml)[0]? = some (1 + s0 % 2, a0 % 2, m0 % 2) := ge hs ha hm
 have hT : (qQ ss al ml).take 1 = [(1 + s0 % 2, a0 % 2, m0 % 2)] := by rw [List.take_add_one, ht]; simp
 have w1 : IntKind.i64.wrap (1 + s0 % 2) = 1 + s0 % 2 := IntWalk.i64_in _ (by omega)
 have w2 : IntKind.i64.wrap (10 + 0) = 10 := by decide
 have w3 : IntKind.i64.wrap (20 + 0) = 20 := by decide
 have w2' : IntKind.i64.wrap 10 = 10 := by decide
 have w3' : IntKind.i64.wrap 20 = 20 := by decide
 have w4 : IntKind.i64.wrap (a0 % 2) = a0 % 2 := IntWalk.i64_in _ (by omega)
 have w5 : IntKind.i64.wrap (m0 % 2) = m0 % 2 := IntWalk.i64_in _ (by omega)
 have w0 : IntKind.i64.wrap 0 = 0 := by decide
 obtain ⟨S0, hS0⟩ : ∃ t, t = 1 + s0 % 2 := ⟨_, rfl⟩
 have v1 : sp2 cI cI pB [.int .i64 S0, .int .i64 (a0 % 2)] = some (qj S0 (a0 % 2)).enc := (vD (A := cI) (B := cI) (x := S0) (y := a0 % 2) trivial trivial).trans (if_pos (by omega))
 have v2' : sp2 cI cI pB [.int .i64 S0, .int .i64 (m0 % 2)] = some (qj S0 (m0 % 2)).enc := (vD (A := cI) (B := cI) (x := S0) (y := m0 % 2) trivial trivial).trans (if_pos (by omega))
 have hve : ∀ v : Va, v.enc = .agg [.int .i64 v.k, .bool v.b, .bool v.x.s, .lst (v.x.n.map u64), .lst (v.x.d.map u64), .int .i64 v.el] := fun _ => rfl
 have x0 : xN ((qQ ss al ml).take 0) = 0 := rfl
 have y0 : yN ((qQ ss al ml).take 0) = 0 := rfl
 rw [x0] at f16
 rw [y0] at f17
 rw [← hS0] at w1 hT
 obtain ⟨VA, hVA⟩ : ∃ t, t = qj S0 (a0 % 2) := ⟨_, rfl⟩
 obtain ⟨VM, hVM⟩ : ∃ t, t = qj S0 (m0 % 2) := ⟨_, rfl⟩
 rw [← hVA, hve] at v1
 rw [← hVM, hve] at v2'
 obtain ⟨c0, hc0⟩ : ∃ t, t = iL ss := ⟨_, rfl⟩
 obtain ⟨c2, hc2⟩ : ∃ t, t = iL al := ⟨_, rfl⟩
 obtain ⟨c3, hc3⟩ : ∃ t, t = iL ml := ⟨_, rfl⟩
 rw [← hc0] at g0 f0
 rw [← hc2] at g2 f2
 rw [← hc3] at g3 f3
 have hmx : maxLen = 9223372036854775807 := rfl
 have x1 : 1 ≤ maxLen := by rw [hmx]; omega
 have x2 : 2 ≤ maxLen := by rw [hmx]; omega
 have x3 : 3 ≤ maxLen := by rw [hmx]; omega
 subst hG
 simp only [lf3_B0, mE, vE, v2]
 simp [f0, f2, f3, f11, f18, g0, g2, g3, r0, r1, r2, w1, w2', ← hS0, x3, zN, qA, qM, qi, -getElem?_pos, List.getElem?_cons_zero, List.getElem?_cons_succ]
 rw [jk]
 refine ⟨[], ?_⟩
 simp [f12, f13, f15, f16, f17, f18, w0, w2', w3', w4, w5, v1, v2', x1, x2, zN, qA, qM, qi, -getElem?_pos, List.getElem?_cons_zero, List.getElem?_cons_succ]
 refine ⟨keepT rfl, keepT rfl, ?_⟩
 refine hQ _ _ ⟨by simp [f0, hc0], by simp [f2, hc2], by simp [f3, hc3], by simp [f4], by simp [f12], by simp [f13], by simp [f14], ?_, ?_⟩ ?_ (by simp [f18])
 ·rw [hT]
  simp [xN]
 ·rw [hT]
  simp [yN]
 ·unfold St3
  rw [hT]
  subst hVA hVM
  refine ⟨_, _, _, _, _, _, rfl, by simp, by simp⟩
theorem tailZ (Z A B : zb) (a : Ent) (k : Nat) (hk : k < Z.length + 1) : (Z ++ a :: A)[k]? = (Z ++ a :: B)[k]? := by
 by_cases h : k < Z.length
 ·rw [List.getElem?_append_left h, List.getElem?_append_left h]
 ·rw [List.getElem?_append_right (by omega), List.getElem?_append_right (by omega), show k - Z.length = 0 by omega]
  rfl
theorem b0_more1 {Q : LExit → AFr → zb → Prop} {fr : AFr} {G : zb} {ss al ml fl : List Int} {r s0 a0 m0 : Int} {t0 : Tri} (hF : Fr3 ss al ml fl r (qQ ss al ml) 1 fr) (hG : St3 r (qQ ss al ml) 1 fr G) (hs : ss[1]? = some s0) (ha : al[1]? = some a0) (hm : ml[1]? = some m0)
  (hT0 : (qQ ss al ml).take 1 = [t0]) (hbd : 0 ≤ xN [t0] ∧ xN [t0] ≤ 7 ∧ 0 ≤ yN [t0] ∧ yN [t0] ≤ 7) (f18 : fr 18 = .p (.int .i64 1))
  (hQ : ∀ fr' G', Fr3 ss al ml fl r (qQ ss al ml) 2 fr' → St3 r (qQ ss al ml) 2 fr' G' → fr' 18 = .p (.int .i64 1) → Q .normal fr' G') :
  vc Tu24 (match lf3_B0 with | .block _ (.loop (.seq _ (.seq (.block _ b) _))) => b | _ => .skip) Q fr G := by
 obtain ⟨f0, f2, f3, f4, f12, f13, f14, f16, f17⟩ := hF
 obtain ⟨j2, j4, j5, j6, j9, Z, hG, f11, f15⟩ := hG
 have g0 : (iL ss)[1]? = some (.int .i64 s0) := by unfold iL; rw [List.getElem?_map, hs]; rfl
 have g2 : (iL al)[1]? = some (.int .i64 a0) := by unfold iL; rw [List.getElem?_map, ha]; rfl
 have g3 : (iL ml)[1]? = some (.int .i64 m0) := by unfold iL; rw [List.getElem?_map, hm]; rfl
 have r0 := qx (k := s0) (n := 2) (by omega) (by omega)
 have r1 := qx (k := a0) (n := 2) (by omega) (by omega)
 have r2 := qx (k := m0) (n := 2) (by omega) (by omega)
 have ht : (qQ ss al ml)[1]? = some (1 + s0 % 2, a0 % 2, m0 % 2) := ge hs ha hm
 have hT : (qQ ss al ml).take 2 = [t0, (1 + s0 % 2, a0 % 2, m0 % 2)] := by rw [List.take_add_one, ht, hT0]; simp
 have w1 : IntKind.i64.wrap (1 + s0 % 2) = 1 + s0 % 2 := IntWalk.i64_in _ (by omega)
 have w2 : IntKind.i64.wrap (10 + 1) = 11 := by decide
 have w3 : IntKind.i64.wrap (20 + 1) = 21 := by decide
 have w2' : IntKind.i64.wrap 11 = 11 := by decide
 have w3' : IntKind.i64.wrap 21 = 21 := by decide
 rw [hT0] at f16 f17
 obtain ⟨X0, hX0⟩ : ∃ t, t = xN [t0] := ⟨_, rfl⟩
 obtain ⟨Y0, hY0⟩ : ∃ t, t = yN [t0] := ⟨_, rfl⟩
 rw [← hX0] at f16 hbd
 rw [← hY0] at f17 hbd
 have w4 : IntKind.i64.wrap (2 * X0) = 2 * X0 := IntWalk.i64_in _ (by omega)
 have w5 : IntKind.i64.wrap (2 * Y0) = 2 * Y0 := IntWalk.i64_in _ (by omega)
 have w6 : IntKind.i64.wrap (2 * X0 + a0 % 2) = 2 * X0 + a0 % 2 := IntWalk.i64_in _ (by omega)
 have w7 : IntKind.i64.wrap (2 * Y0 + m0 % 2) = 2 * Y0 + m0 % 2 := IntWalk.i64_in _ (by omega)
 have w0 : IntKind.i64.wrap 0 = 0 := by decide
 obtain ⟨S0, hS0⟩ : ∃ t, t = 1 + s0 % 2 := ⟨_, rfl⟩
 have v1 : sp2 cI cI pB [.int .i64 S0, .int .i64 (a0 % 2)] = some (qj S0 (a0 % 2)).enc := (vD (A := cI) (B := cI) (x := S0) (y := a0 % 2) trivial trivial).trans (if_pos (by omega))
 have v2' : sp2 cI cI pB [.int .i64 S0, .int .i64 (m0 % 2)] = some (qj S0 (m0 % 2)).enc := (vD (A := cI) (B := cI) (x := S0) (y := m0 % 2) trivial trivial).trans (if_pos (by omega))
 have hve : ∀ v : Va, v.enc = .agg [.int .i64 v.k, .bool v.b, .bool v.x.s, .lst (v.x.n.map u64), .lst (v.x.d.map u64), .int .i64 v.el] := fun _ => rfl
 rw [← hS0] at w1 hT
 obtain ⟨VA, hVA⟩ : ∃ t, t = qj S0 (a0 % 2) := ⟨_, rfl⟩
 obtain ⟨VM, hVM⟩ : ∃ t, t = qj S0 (m0 % 2) := ⟨_, rfl⟩
 rw [← hVA, hve] at v1
 rw [← hVM, hve] at v2'
 obtain ⟨c0, hc0⟩ : ∃ t, t = iL ss := ⟨_, rfl⟩
 obtain ⟨c2, hc2⟩ : ∃ t, t = iL al := ⟨_, rfl⟩
 obtain ⟨c3, hc3⟩ : ∃ t, t = iL ml := ⟨_, rfl⟩
 rw [← hc0] at g0 f0
 rw [← hc2] at g2 f2
 rw [← hc3] at g3 f3
 have hmx : maxLen = 9223372036854775807 := rfl
 have x2 : 2 ≤ maxLen := by rw [hmx]; omega
 have x3 : 3 ≤ maxLen := by rw [hmx]; omega
 have x4 : 4 ≤ maxLen := by rw [hmx]; omega
 have x5 : 5 ≤ maxLen := by rw [hmx]; omega
 have x6 : 6 ≤ maxLen := by rw [hmx]; omega
 rw [hT0] at hG
 simp only [mE, vE, v2, iE, gE, qW, yn, m7, iL, List.map_cons, List.map_nil] at hG
 obtain ⟨EV, hEV⟩ : ∃ t : List AVal, t = [AVal.p (cVr.enc ⟨1, r⟩), AVal.p (cVr.enc ⟨2, r⟩), AVal.p (cVr.enc ⟨10, t0.1⟩)] := ⟨_, rfl⟩
 obtain ⟨EG, hEG⟩ : ∃ t : List AVal, t = [AVal.p (cGv.enc ⟨10, qj t0.1 t0.2.1⟩), AVal.p (cGv.enc ⟨20, qj t0.1 t0.2.2⟩)] := ⟨_, rfl⟩
 have hEVl : EV.length = 3 := by rw [hEV]; rfl
 have hEGl : EG.length = 2 := by rw [hEG]; rfl
 rw [← hEV, ← hEG] at hG
 subst hG
 simp only [lf3_B0]
 simp [f0, f2, f3, f11, f18, g0, g2, g3, r0, r1, r2, w1, w2', ← hS0, hEVl, x4, zN, qA, qt, qM, qi, -getElem?_pos, List.getElem?_cons_zero, List.getElem?_cons_succ]
 rw [jk]
 refine ⟨[7, 8], ?_⟩
 simp [f12, f13, f15, f16, f17, f18, w2', w3', w4, w5, w6, w7, v1, v2', hEGl, x2, x4, zN, qA, bd, qM, qi, -getElem?_pos, List.getElem?_cons_zero, List.getElem?_cons_succ]
 refine ⟨?_, ?_, ?_⟩
 ·intro k hk h7 h8
  match k, hk, h7, h8 with
  | 0, _, _, _ | 1, _, _, _ | 2, _, _, _ | 3, _, _, _ | 4, _, _, _ | 5, _, _, _ | 6, _, _, _ | 9, _, _, _ | 10, _, _, _ => rfl
  | 7, _, h, _ => exact absurd rfl h
  | 8, _, _, h => exact absurd rfl h
  | k + 11, hk, _, _ => exact tailZ Z _ _ _ k (by omega)
 ·intro k hk h7 h8
  match k, hk, h7, h8 with
  | 0, _, _, _ | 1, _, _, _ | 2, _, _, _ | 3, _, _, _ | 4, _, _, _ | 5, _, _, _ | 6, _, _, _ | 9, _, _, _ | 10, _, _, _ => rfl
  | 7, _, h, _ => exact absurd rfl h
  | 8, _, _, h => exact absurd rfl h
  | k + 11, hk, _, _ => exact tailZ Z _ _ _ k (by omega)
 refine hQ _ _ ⟨by simp [f0, hc0], by simp [f2, hc2], by simp [f3, hc3], by simp [f4], by simp [f12], by simp [f13], by simp [f14], ?_, ?_⟩ ?_ (by simp [f18])
 ·rw [hT]
  simp [hX0, xN]
 ·rw [hT]
  simp [hY0, yN]
 ·unfold St3
  rw [hT]
  subst hVA hVM hEV hEG
  refine ⟨_, _, _, _, _, _, rfl, by simp, by simp⟩
theorem b0_more2 {Q : LExit → AFr → zb → Prop} {fr : AFr} {G : zb} {ss al ml fl : List Int} {r s0 a0 m0 : Int} {t0 t1 : Tri} (hF : Fr3 ss al ml fl r (qQ ss al ml) 2 fr) (hG : St3 r (qQ ss al ml) 2 fr G) (hs : ss[2]? = some s0) (ha : al[2]? = some a0) (hm : ml[2]? = some m0)
  (hT0 : (qQ ss al ml).take 2 = [t0, t1]) (hbd : 0 ≤ xN [t0, t1] ∧ xN [t0, t1] ≤ 7 ∧ 0 ≤ yN [t0, t1] ∧ yN [t0, t1] ≤ 7) (f18 : fr 18 = .p (.int .i64 2))
  (hQ : ∀ fr' G', Fr3 ss al ml fl r (qQ ss al ml) 3 fr' → St3 r (qQ ss al ml) 3 fr' G' → fr' 18 = .p (.int .i64 2) → Q .normal fr' G') :
  vc Tu24 (match lf3_B0 with | .block _ (.loop (.seq _ (.seq (.block _ b) _))) => b | _ => .skip) Q fr G := by
 obtain ⟨f0, f2, f3, f4, f12, f13, f14, f16, f17⟩ := hF
 obtain ⟨j2, j4, j5, j6, j9, Z, hG, f11, f15⟩ := hG
 have g0 : (iL ss)[2]? = some (.int .i64 s0) := by unfold iL; rw [List.getElem?_map, hs]; rfl
 have g2 : (iL al)[2]? = some (.int .i64 a0) := by unfold iL; rw [List.getElem?_map, ha]; rfl
 have g3 : (iL ml)[2]? = some (.int .i64 m0) := by unfold iL; rw [List.getElem?_map, hm]; rfl
 have r0 := qx (k := s0) (n := 2) (by omega) (by omega)
 have r1 := qx (k := a0) (n := 2) (by omega) (by omega)
 have r2 := qx (k := m0) (n := 2) (by omega) (by omega)
 have ht : (qQ ss al ml)[2]? = some (1 + s0 % 2, a0 % 2, m0 % 2) := ge hs ha hm
 have hT : (qQ ss al ml).take 3 = [t0, t1, (1 + s0 % 2, a0 % 2, m0 % 2)] := by rw [List.take_add_one, ht, hT0]; simp
 have w1 : IntKind.i64.wrap (1 + s0 % 2) = 1 + s0 % 2 := IntWalk.i64_in _ (by omega)
 have w2 : IntKind.i64.wrap (10 + 2) = 12 := by decide
 have w3 : IntKind.i64.wrap (20 + 2) = 22 := by decide
 have w2' : IntKind.i64.wrap 12 = 12 := by decide
 have w3' : IntKind.i64.wrap 22 = 22 := by decide
 rw [hT0] at f16 f17
 obtain ⟨X0, hX0⟩ : ∃ t, t = xN [t0, t1] := ⟨_, rfl⟩
 obtain ⟨Y0, hY0⟩ : ∃ t, t = yN [t0, t1] := ⟨_, rfl⟩
 rw [← hX0] at f16 hbd
 rw [← hY0] at f17 hbd
 have w4 : IntKind.i64.wrap (2 * X0) = 2 * X0 := IntWalk.i64_in _ (by omega)
 have w5 : IntKind.i64.wrap (2 * Y0) = 2 * Y0 := IntWalk.i64_in _ (by omega)
 have w6 : IntKind.i64.wrap (2 * X0 + a0 % 2) = 2 * X0 + a0 % 2 := IntWalk.i64_in _ (by omega)
 have w7 : IntKind.i64.wrap (2 * Y0 + m0 % 2) = 2 * Y0 + m0 % 2 := IntWalk.i64_in _ (by omega)
 have w0 : IntKind.i64.wrap 0 = 0 := by decide
 obtain ⟨S0, hS0⟩ : ∃ t, t = 1 + s0 % 2 := ⟨_, rfl⟩
 have v1 : sp2 cI cI pB [.int .i64 S0, .int .i64 (a0 % 2)] = some (qj S0 (a0 % 2)).enc := (vD (A := cI) (B := cI) (x := S0) (y := a0 % 2) trivial trivial).trans (if_pos (by omega))
 have v2' : sp2 cI cI pB [.int .i64 S0, .int .i64 (m0 % 2)] = some (qj S0 (m0 % 2)).enc := (vD (A := cI) (B := cI) (x := S0) (y := m0 % 2) trivial trivial).trans (if_pos (by omega))
 have hve : ∀ v : Va, v.enc = .agg [.int .i64 v.k, .bool v.b, .bool v.x.s, .lst (v.x.n.map u64), .lst (v.x.d.map u64), .int .i64 v.el] := fun _ => rfl
 rw [← hS0] at w1 hT
 obtain ⟨VA, hVA⟩ : ∃ t, t = qj S0 (a0 % 2) := ⟨_, rfl⟩
 obtain ⟨VM, hVM⟩ : ∃ t, t = qj S0 (m0 % 2) := ⟨_, rfl⟩
 rw [← hVA, hve] at v1
 rw [← hVM, hve] at v2'
 obtain ⟨c0, hc0⟩ : ∃ t, t = iL ss := ⟨_, rfl⟩
 obtain ⟨c2, hc2⟩ : ∃ t, t = iL al := ⟨_, rfl⟩
 obtain ⟨c3, hc3⟩ : ∃ t, t = iL ml := ⟨_, rfl⟩
 rw [← hc0] at g0 f0
 rw [← hc2] at g2 f2
 rw [← hc3] at g3 f3
 have hmx : maxLen = 9223372036854775807 := rfl
 have x2 : 2 ≤ maxLen := by rw [hmx]; omega
 have x3 : 3 ≤ maxLen := by rw [hmx]; omega
 have x4 : 4 ≤ maxLen := by rw [hmx]; omega
 have x5 : 5 ≤ maxLen := by rw [hmx]; omega
 have x6 : 6 ≤ maxLen := by rw [hmx]; omega
 rw [hT0] at hG
 simp only [mE, vE, v2, iE, gE, qW, yn, m7, iL, List.map_cons, List.map_nil] at hG
 obtain ⟨EV, hEV⟩ : ∃ t : List AVal, t = [AVal.p (cVr.enc ⟨1, r⟩), AVal.p (cVr.enc ⟨2, r⟩), AVal.p (cVr.enc ⟨10, t0.1⟩), AVal.p (cVr.enc ⟨10 + 1, t1.1⟩)] := ⟨_, rfl⟩
 obtain ⟨EG, hEG⟩ : ∃ t : List AVal, t = [AVal.p (cGv.enc ⟨10, qj t0.1 t0.2.1⟩), AVal.p (cGv.enc ⟨20, qj t0.1 t0.2.2⟩), AVal.p (cGv.enc ⟨10 + 1, qj t1.1 t1.2.1⟩), AVal.p (cGv.enc ⟨20 + 1, qj t1.1 t1.2.2⟩)] := ⟨_, rfl⟩
 have hEVl : EV.length = 4 := by rw [hEV]; rfl
 have hEGl : EG.length = 4 := by rw [hEG]; rfl
 rw [← hEV, ← hEG] at hG
 subst hG
 simp only [lf3_B0]
 simp [f0, f2, f3, f11, f18, g0, g2, g3, r0, r1, r2, w1, w2', ← hS0, hEVl, x5, zN, qA, qt, qM, qi, -getElem?_pos, List.getElem?_cons_zero, List.getElem?_cons_succ]
 rw [jk]
 refine ⟨[7, 8], ?_⟩
 simp [f12, f13, f15, f16, f17, f18, w2', w3', w4, w5, w6, w7, v1, v2', hEGl, x3, x6, zN, qA, bd, qM, qi, -getElem?_pos, List.getElem?_cons_zero, List.getElem?_cons_succ]
 refine ⟨?_, ?_, ?_⟩
 ·intro k hk h7 h8
  match k, hk, h7, h8 with
  | 0, _, _, _ | 1, _, _, _ | 2, _, _, _ | 3, _, _, _ | 4, _, _, _ | 5, _, _, _ | 6, _, _, _ | 9, _, _, _ | 10, _, _, _ => rfl
  | 7, _, h, _ => exact absurd rfl h
  | 8, _, _, h => exact absurd rfl h
  | k + 11, hk, _, _ => exact tailZ Z _ _ _ k (by omega)
 ·intro k hk h7 h8
  match k, hk, h7, h8 with
  | 0, _, _, _ | 1, _, _, _ | 2, _, _, _ | 3, _, _, _ | 4, _, _, _ | 5, _, _, _ | 6, _, _, _ | 9, _, _, _ | 10, _, _, _ => rfl
  | 7, _, h, _ => exact absurd rfl h
  | 8, _, _, h => exact absurd rfl h
  | k + 11, hk, _, _ => exact tailZ Z _ _ _ k (by omega)
 refine hQ _ _ ⟨by simp [f0, hc0], by simp [f2, hc2], by simp [f3, hc3], by simp [f4], by simp [f12], by simp [f13], by simp [f14], ?_, ?_⟩ ?_ (by simp [f18])
 ·rw [hT]
  simp [hX0, xN]
 ·rw [hT]
  simp [hY0, yN]
 ·unfold St3
  rw [hT]
  subst hVA hVM hEV hEG
  refine ⟨_, _, _, _, _, _, rfl, by simp, by simp⟩
theorem b0_all {Q : LExit → AFr → zb → Prop} {fr : AFr} {G : zb} {ss al ml fl : List Int} {r : Int} {j2 : Ent} (hn : 1 ≤ ss.length) (hn3 : ss.length ≤ 3) (hal : ss.length ≤ al.length) (hml : ss.length ≤ ml.length) (hF : Fr3 ss al ml fl r (qQ ss al ml) 0 fr)
  (hG : G = [mE 1 (.tight []), mE 2 (.tight []), j2, vE 0 (v2 r [])]) (f11 : fr 11 = .own 3 0 2 0) (f15 : fr 15 = .tight []) (f18 : fr 18 = .p (.int .i64 0))
  (hQ : ∀ fr' G', Fr3 ss al ml fl r (qQ ss al ml) ss.length fr' → St3 r (qQ ss al ml) ss.length fr' G' → Q .normal fr' G') : vc Tu24 lf3_B0 Q fr G := by
 obtain ⟨B, hB⟩ : ∃ B, B = (match lf3_B0 with | .block _ (.loop (.seq _ (.seq (.block _ b) _))) => b | _ => .skip) := ⟨_, rfl⟩
 have hcode : lf3_B0 = .block 0 (.loop (.seq (match lf3_B0 with | .block _ (.loop (.seq g _)) => g | _ => .skip) (.seq (.block 1 B) (match lf3_B0 with | .block _ (.loop (.seq _ (.seq _ c))) => c | _ => .skip)))) := by subst hB; rfl
 rw [hcode, zr]
 have htl := gd hal hml
 have hbd := xN_bd (L := qQ ss al ml) (fun t ht => gb t ht) (by omega)
 have hsl := bY ss
 refine zo (fun fr' G' => ∃ i : Nat, i ≤ ss.length ∧ Fr3 ss al ml fl r (qQ ss al ml) i fr' ∧ fr' 18 = .p (.int .i64 i) ∧ ((i = 0 ∧ G' = [mE 1 (.tight []), mE 2 (.tight []), j2, vE 0 (v2 r [])] ∧ fr' 11 = .own 3 0 2 0 ∧ fr' 15 = .tight []) ∨ (1 ≤ i ∧ St3 r (qQ ss al ml) i fr' G'))) (fun fr' _ => ss.length - zD (fr' 18)) ⟨0, by omega, hF, f18, .inl ⟨rfl, hG, f11, f15⟩⟩ ?_
 rintro fr1 G1 ⟨i, hi, hF1, k18, hS⟩
 have k0 := hF1.f0
 simp only [lf3_B0]
 by_cases h : i < ss.length
 ·have hw := zs (i := i) (by omega)
  have hmm : ss.length - (i + 1) < ss.length - i := by omega
  obtain ⟨s0, hs⟩ : ∃ x, ss[i]? = some x := ⟨_, List.getElem?_eq_getElem h⟩
  obtain ⟨a0, ha⟩ : ∃ x, al[i]? = some x := ⟨_, List.getElem?_eq_getElem (by omega)⟩
  obtain ⟨m0, hm⟩ : ∃ x, ml[i]? = some x := ⟨_, List.getElem?_eq_getElem (by omega)⟩
  have hF1' : ∀ v1 v2 v3 v4, Fr3 ss al ml fl r (qQ ss al ml) i (upd (upd (upd (upd fr1 83 v1) 84 v2) 85 v3) 86 v4) := fun v1 v2 v3 v4 => by
   obtain ⟨a0, a2, a3, a4, a12, a13, a14, a16, a17⟩ := hF1
   exact ⟨by simp [a0], by simp [a2], by simp [a3], by simp [a4], by simp [a12], by simp [a13], by simp [a14], by simp [a16], by simp [a17]⟩
  have hi3 : i = 0 ∨ i = 1 ∨ i = 2 := by omega
  simp [k0, k18, hsl, h, -getElem?_pos]
  subst hB
  rcases hS with ⟨rfl, hG0, g11, g15⟩ | ⟨h1, hS⟩
  ·exact b0_first (hF1' _ _ _ _) hs ha hm hG0 (by simp [g11]) (by simp [g15]) (by simpa using k18) fun fr2 G2 hF2 hS2 y18 => by
      simp [y18, -getElem?_pos]
      refine ⟨⟨_, h, ?_, rfl, .inr ⟨by omega, ?_⟩⟩, by first | exact hmm | (simp [zD]; omega)⟩
      ·obtain ⟨a0, a2, a3, a4, a12, a13, a14, a16, a17⟩ := hF2
       exact ⟨by simp [a0], by simp [a2], by simp [a3], by simp [a4], by simp [a12], by simp [a13], by simp [a14], by simp [a16], by simp [a17]⟩
      ·obtain ⟨b2, b4, b5, b6, b9, Z, hG2, b11, b15⟩ := hS2
       exact ⟨b2, b4, b5, b6, b9, Z, hG2, by simp [b11], by simp [b15]⟩
  ·have hS1' : ∀ v1 v2 v3 v4, St3 r (qQ ss al ml) i (upd (upd (upd (upd fr1 83 v1) 84 v2) 85 v3) 86 v4) G1 := fun v1 v2 v3 v4 => by
    obtain ⟨b2, b4, b5, b6, b9, Z, hG2, b11, b15⟩ := hS
    exact ⟨b2, b4, b5, b6, b9, Z, hG2, by simp [b11], by simp [b15]⟩
   rcases hi3 with rfl | rfl | rfl
   ·omega
   ·obtain ⟨t0, ht0⟩ : ∃ x, (qQ ss al ml)[0]? = some x := ⟨_, List.getElem?_eq_getElem (by omega)⟩
    have hT0 : (qQ ss al ml).take 1 = [t0] := by rw [List.take_add_one, ht0]; simp
    have hb := hbd 1
    rw [hT0] at hb
    exact b0_more1 (hF1' _ _ _ _) (hS1' _ _ _ _) hs ha hm hT0 hb (by simpa using k18) fun fr2 G2 hF2 hS2 y18 => by
      simp [y18, -getElem?_pos]
      refine ⟨⟨_, h, ?_, rfl, .inr ⟨by omega, ?_⟩⟩, by first | exact hmm | (simp [zD]; omega)⟩
      ·obtain ⟨a0, a2, a3, a4, a12, a13, a14, a16, a17⟩ := hF2
       exact ⟨by simp [a0], by simp [a2], by simp [a3], by simp [a4], by simp [a12], by simp [a13], by simp [a14], by simp [a16], by simp [a17]⟩
      ·obtain ⟨b2, b4, b5, b6, b9, Z, hG2, b11, b15⟩ := hS2
       exact ⟨b2, b4, b5, b6, b9, Z, hG2, by simp [b11], by simp [b15]⟩
   ·obtain ⟨t0, ht0⟩ : ∃ x, (qQ ss al ml)[0]? = some x := ⟨_, List.getElem?_eq_getElem (by omega)⟩
    obtain ⟨t1, ht1⟩ : ∃ x, (qQ ss al ml)[1]? = some x := ⟨_, List.getElem?_eq_getElem (by omega)⟩
    have hT0 : (qQ ss al ml).take 2 = [t0, t1] := by rw [List.take_add_one, ht1, List.take_add_one, ht0]; simp
    have hb := hbd 2
    rw [hT0] at hb
    exact b0_more2 (hF1' _ _ _ _) (hS1' _ _ _ _) hs ha hm hT0 hb (by simpa using k18) fun fr2 G2 hF2 hS2 y18 => by
      simp [y18, -getElem?_pos]
      refine ⟨⟨_, h, ?_, rfl, .inr ⟨by omega, ?_⟩⟩, by first | exact hmm | (simp [zD]; omega)⟩
      ·obtain ⟨a0, a2, a3, a4, a12, a13, a14, a16, a17⟩ := hF2
       exact ⟨by simp [a0], by simp [a2], by simp [a3], by simp [a4], by simp [a12], by simp [a13], by simp [a14], by simp [a16], by simp [a17]⟩
      ·obtain ⟨b2, b4, b5, b6, b9, Z, hG2, b11, b15⟩ := hS2
       exact ⟨b2, b4, b5, b6, b9, Z, hG2, by simp [b11], by simp [b15]⟩
 ·have hil : i = ss.length := by omega
  subst hil
  have hS' : St3 r (qQ ss al ml) ss.length fr1 G1 := by
   rcases hS with ⟨h0, -⟩ | ⟨-, hS⟩
   ·omega
   ·exact hS
  simp [k0, k18, hsl, -getElem?_pos]
  refine hQ _ _ ?_ ?_
  ·obtain ⟨a0, a2, a3, a4, a12, a13, a14, a16, a17⟩ := hF1
   exact ⟨by simp [a0], by simp [a2], by simp [a3], by simp [a4], by simp [a12], by simp [a13], by simp [a14], by simp [a16], by simp [a17]⟩
  ·obtain ⟨b2, b4, b5, b6, b9, Z, hG2, b11, b15⟩ := hS'
   exact ⟨b2, b4, b5, b6, b9, Z, hG2, by simp [b11], by simp [b15]⟩
theorem oe {vs : List Vr} {a b : Md} {l m : List Li} (h : m5 vs a b = some (l, m)) : cLi.wfL l ∧ cLi.wfL m ∧ l.length ≤ a.ag.length + 2 ∧ m.length ≤ a.ag.length + 2 := by
 unfold m5 at h
 split at h
 case isFalse => cases h
 split at h
 case h_2 => cases h
 rename_i o out ho
 have hw := gL ho
 have hl := cH ho
 split at h
 case h_2 => cases h
 rename_i s hs
 split at h
 case h_2 => cases h
 rename_i r hr
 have he : cLi.wfL r.1 ∧ cLi.wfL r.2 ∧ r.1.length ≤ 2 ∧ r.2.length ≤ 2 := by
  unfold pj at hr
  split at hr
  ·split at hr
   ·cases hr
    refine ⟨?_, ?_, by simp, by simp⟩
    ·intro x hx; simp at hx; rcases hx with rfl | rfl <;> exact jK
    ·intro x hx; simp at hx; rcases hx with rfl | rfl <;> exact jK
   ·cases hr
  ·split at hr
   ·rename_i at' hat
    cases hr
    refine ⟨?_, ?_, by simp, by simp⟩
    ·intro x hx; simp at hx; subst hx; exact eqA_wf hat
    ·intro x hx; cases hx
   ·cases hr
 obtain ⟨e1, e2, e3, e4⟩ := he
 have happ : ∀ t : List Li, cLi.wfL t → cLi.wfL (o :: out ++ t) := fun t ht x hx => by
  rcases List.mem_append.1 hx with hx | hx
  ·exact hw x hx
  ·exact ht x hx
 simp only [Option.some.injEq, Prod.mk.injEq] at h
 obtain ⟨rfl, rfl⟩ := h
 refine ⟨happ _ e1, ?_, by rw [List.length_append]; omega, ?_⟩
 ·split
  ·intro x hx; cases hx
  ·exact happ _ e2
 ·split
  ·simp
  ·rw [List.length_append]; omega
theorem chk_facts {L : List Tri} {r fx fy : Int} (h : chk L r fx fy = true) : ∃ l m, bW (t4 L r) (kF 1 10 L) (kF 2 20 L) = some (.tup [.lst (l.map cLi.enc), .lst (m.map cLi.enc), .int .i64 0]) ∧
  bk [kF 1 10 L, kF 2 20 L] (yo L r fx fy) = some (.tup [.int .i64 0, .int .i64 0, .bool false]) ∧ (decide (r = 0) = !m.isEmpty) ∧ cLi.wfL l ∧ cLi.wfL m ∧
  (l.length ≤ 1000000 → u2 l (yo L r fx fy) = some (.bool true)) ∧ (m.length ≤ 1000000 → m.isEmpty = false → u2 m (yo L r fx fy) = some (.bool true)) ∧ l.length ≤ L.length + 2 ∧ m.length ≤ L.length + 2 := by
 unfold chk at h
 split at h
 case h_2 => cases h
 rename_i l m hl
 split at h
 case h_2 => cases h
 rename_i hc
 simp only [Bool.and_eq_true, beq_iff_eq, Bool.or_eq_true] at h
 obtain ⟨⟨⟨⟨h1, h2⟩, h3⟩, h4⟩, h5⟩ := h
 obtain ⟨f1, f2, f3, f4⟩ := oe hl
 have hag : (kF 1 10 L).ag.length = L.length := gW _ _
 rw [hag] at f3 f4
 refine ⟨l, m, ?_, hc, h1, f1, f2, fun hlen => ?_, fun hlen hm => ?_, f3, f4⟩
 ·unfold bW
  rw [hl]
 ·unfold u2
  rw [if_pos ⟨h2, hlen⟩, h4]
 ·unfold u2
  rcases h5 with h5 | h5
  ·rw [h5] at hm; cases hm
  ·rw [if_pos ⟨h3, hlen⟩, h5]
theorem b1_true {Q : LExit → AFr → zb → Prop} {fr : AFr} {ss al ml : List Int} {VL : List Vr} {w : Nat} {e0 e1 e2 : Ent} {R : zb} (hal : ss.length ≤ al.length) (hml : ss.length ≤ ml.length) (hn3 : ss.length ≤ 3) (hVl : VL.length ≤ 100)
  (f0 : fr 0 = .p (.lst (iL ss))) (f11 : fr 11 = .own 3 0 VL.length w) (f22 : fr 22 = .p (.int .i64 0))
  (hQ : ∀ fr' Z', (fr' 4 = fr 4 ∧ fr' 12 = fr 12 ∧ fr' 13 = fr 13 ∧ fr' 14 = fr 14 ∧ fr' 15 = fr 15 ∧ fr' 16 = fr 16 ∧ fr' 17 = fr 17) → fr' 11 = .own 3 0 (VL.length + ss.length) (w + ss.length) →
   Q .normal fr' (e0 :: e1 :: e2 :: vE (w + ss.length) (VL ++ qW 20 (qQ ss al ml)) :: (R ++ Z'))) : vc Tu24 lf3_B1 Q fr (e0 :: e1 :: e2 :: vE w VL :: R) := by
 simp only [lf3_B1, zr]
 have hsl := bY ss
 have htl := gd hal hml
 obtain ⟨L, hL⟩ : ∃ t, t = qQ ss al ml := ⟨_, rfl⟩
 rw [← hL] at htl hQ
 refine zo (fun fr' G' => ∃ (i : Nat) (Z' : zb), i ≤ ss.length ∧ (fr' 4 = fr 4 ∧ fr' 12 = fr 12 ∧ fr' 13 = fr 13 ∧ fr' 14 = fr 14 ∧ fr' 15 = fr 15 ∧ fr' 16 = fr 16 ∧ fr' 17 = fr 17) ∧ fr' 0 = .p (.lst (iL ss)) ∧ fr' 11 = .own 3 0 (VL.length + i) (w + i) ∧ fr' 22 = .p (.int .i64 i) ∧ G' = e0 :: e1 :: e2 :: vE (w + i) (VL ++ qW 20 (L.take i)) :: (R ++ Z')) (fun fr' _ => ss.length - zD (fr' 22)) ⟨0, [], by omega, ⟨rfl, rfl, rfl, rfl, rfl, rfl, rfl⟩, f0, f11, f22, by simp [qW]⟩ ?_
 rintro fr1 G1 ⟨i, Z', hi, ⟨z4, z12, z13, z14, z15, z16, z17⟩, k0, k11, k22, hG⟩
 by_cases h : i < ss.length
 ·have hw := zs (i := i) (by omega)
  have hmm : ss.length - (i + 1) < ss.length - i := by omega
  obtain ⟨s0, hs⟩ : ∃ x, ss[i]? = some x := ⟨_, List.getElem?_eq_getElem h⟩
  obtain ⟨a0, ha⟩ : ∃ x, al[i]? = some x := ⟨_, List.getElem?_eq_getElem (by omega)⟩
  obtain ⟨m0, hm⟩ : ∃ x, ml[i]? = some x := ⟨_, List.getElem?_eq_getElem (by omega)⟩
  have ht : L[i]? = some (1 + s0 % 2, a0 % 2, m0 % 2) := by rw [hL]; exact ge hs ha hm
  have hlt : (L.take i).length = i := by rw [List.length_take]; omega
  have hts : qW 20 (L.take (i + 1)) = qW 20 (L.take i) ++ [⟨20 + i, 1 + s0 % 2⟩] := by
   rw [List.take_add_one, ht, Option.toList_some, rj, hlt]
  have g0 : (iL ss)[i]? = some (.int .i64 s0) := by unfold iL; rw [List.getElem?_map, hs]; rfl
  have r0 := qx (k := s0) (n := 2) (by omega) (by omega)
  have w1 : IntKind.i64.wrap (1 + s0 % 2) = 1 + s0 % 2 := IntWalk.i64_in _ (by omega)
  have w2 : IntKind.i64.wrap (20 + (i : Int)) = 20 + i := IntWalk.i64_in _ (by omega)
  have hmx : maxLen = 9223372036854775807 := rfl
  have hvl : (VL ++ qW 20 (L.take i)).length = VL.length + i := by rw [List.length_append, cw, hlt]
  obtain ⟨S0, hS0⟩ : ∃ t, t = 1 + s0 % 2 := ⟨_, rfl⟩
  rw [← hS0] at w1 hts
  have a1 : ∀ z, qC 2 16 29 (.own 3 0 (VL.length + i) (w + i)) [.p (.agg [.int .i64 (20 + i), .int .i64 S0])] (e0 :: e1 :: e2 :: vE (w + i) (VL ++ qW 20 (L.take i)) :: (R ++ (Z' ++ [z]))) = some (.own 3 0 (VL.length + (i + 1)) (w + (i + 1)), e0 :: e1 :: e2 :: vE (w + (i + 1)) (VL ++ qW 20 (L.take (i + 1))) :: (R ++ (Z' ++ [z]))) := fun z => by
   rw [mn (size := 2) (ver := w + i) (fz := false) (els := ((VL ++ qW 20 (L.take i)).map cVr.enc).map .p) rfl rfl (by omega) (by rw [List.length_map, List.length_map, hvl]) (by rw [List.length_map, List.length_map, hvl]; simp only [List.length_cons, List.length_nil]; omega) (by rw [List.length_map, List.length_map, hvl, hmx]; simp only [List.length_cons, List.length_nil]; omega), hts]
   simp only [vE, List.map_append, List.append_assoc, List.set_cons_succ, List.set_cons_zero]
   rfl
  obtain ⟨c0, hc0⟩ : ∃ t, t = iL ss := ⟨_, rfl⟩
  rw [← hc0] at g0 k0 hsl
  obtain ⟨ev, hev⟩ : ∃ t, t = vE (w + i) (VL ++ qW 20 (L.take i)) := ⟨_, rfl⟩
  obtain ⟨ev', hev'⟩ : ∃ t, t = vE (w + (i + 1)) (VL ++ qW 20 (L.take (i + 1))) := ⟨_, rfl⟩
  rw [← hev, ← hev'] at a1
  rw [← hev] at hG
  subst hG
  simp [-qC, k0, k11, k22, h, hsl, g0, r0, w1, w2, hw, ← hS0, a1, zN, qA, bd, qt, qM, qi, -getElem?_pos, List.getElem?_cons_zero, List.getElem?_cons_succ]
  exact ⟨⟨i + 1, by omega, ⟨z4, z12, z13, z14, z15, z16, z17⟩, hc0, rfl, rfl, hev'⟩, by simpa [zD] using hmm⟩
 ·have hil : i = ss.length := by omega
  subst hil
  rw [List.take_of_length_le (by omega)] at hG
  subst hG
  simp [k0, k22, hsl, -getElem?_pos]
  exact hQ _ _ ⟨by simp [z4], by simp [z12], by simp [z13], by simp [z14], by simp [z15], by simp [z16], by simp [z17]⟩ (by simp [k11])
def pK : List PVal → Option PVal
 | [.lst a, .int .i64 _, .lst b, .lst c, .lst d] => match j0 cI.dec a, j0 cI.dec b, j0 cI.dec c, j0 cI.dec d with
  | some _, some _, some _, some _ => some (.bool true)
  | _, _, _, _ => none
 | _ => none
structure Own (A : List AVal) (P : List PVal) : Prop where
 eq : A = P.map AVal.p
theorem Own.res {A : List AVal} {P : List PVal} (h : Own A P) (H : zb) (n k : Nat) (hk : A.length = k) : zP (zj H n) (List.take k A) = some P := by
 obtain ⟨rfl⟩ := h
 rw [List.take_of_length_le (by omega), vV]
theorem Own.tou {A : List AVal} {P : List PVal} (h : Own A P) (H : zb) (n k : Nat) (hk : A.length = k) : List.flatMap (zi H n) (List.take k A) = [] := by
 obtain ⟨rfl⟩ := h
 rw [List.take_of_length_le (by omega), dv]
theorem true_ok : zG Tryz.prog base 3 (za pK) := by
 refine bM zB Tu24_ok ze low3 fun args z hs hf => ?_
 unfold pK at hs
 split at hs
 case h_2 => cases hs
 rename_i pa res pb pc pd
 split at hs
 case h_2 => cases hs
 rename_i ss al ml fl h1 h2 h3 h4
 cases hs
 obtain ⟨rfl, -⟩ := cI.edL _ _ h1
 obtain ⟨rfl, -⟩ := cI.edL _ _ h2
 obtain ⟨rfl, -⟩ := cI.edL _ _ h3
 obtain ⟨rfl, -⟩ := cI.edL _ _ h4
 refine ⟨by simp [lf3], ?_⟩
 have hI : ∀ l : List Int, l.map cI.enc = iL l := fun _ => rfl
 rw [hI, hI, hI, hI]
 have q1 := bY ss
 have q2 := bY al
 have q3 := bY ml
 have q4 := bY fl
 obtain ⟨c0, hc0⟩ : ∃ t, t = iL ss := ⟨_, rfl⟩
 obtain ⟨c2, hc2⟩ : ∃ t, t = iL al := ⟨_, rfl⟩
 obtain ⟨c3, hc3⟩ : ∃ t, t = iL ml := ⟨_, rfl⟩
 obtain ⟨c4, hc4⟩ : ∃ t, t = iL fl := ⟨_, rfl⟩
 rw [← hc0] at q1 ⊢
 rw [← hc2] at q2 ⊢
 rw [← hc3] at q3 ⊢
 rw [← hc4] at q4 ⊢
 by_cases n0 : ss.length < 1
 ·have d0 : (ss.length : Int) < 1 := by omega
  simp [lf3, q1, d0, gG, qM, qi]
 have d0 : ¬ (ss.length : Int) < 1 := by omega
 by_cases n1 : 3 < ss.length
 ·have d1 : (3 : Int) < ss.length := by omega
  simp [lf3, q1, d0, d1, gG, qM, qi]
 have d1 : ¬ (3 : Int) < ss.length := by omega
 by_cases n2 : al.length < ss.length
 ·have d2 : (al.length : Int) < ss.length := by omega
  simp [lf3, q1, q2, d0, d1, d2, gG, qM, qi]
 have d2 : ¬ (al.length : Int) < ss.length := by omega
 by_cases n3 : ml.length < ss.length
 ·have d3 : (ml.length : Int) < ss.length := by omega
  simp [lf3, q1, q2, q3, d0, d1, d2, d3, gG, qM, qi]
 have d3 : ¬ (ml.length : Int) < ss.length := by omega
 by_cases n4 : 6 < al.length
 ·have d4 : (6 : Int) < al.length := by omega
  simp [lf3, q1, q2, q3, d0, d1, d2, d3, d4, gG, qM, qi]
 have d4 : ¬ (6 : Int) < al.length := by omega
 by_cases n5 : 6 < ml.length
 ·have d5 : (6 : Int) < ml.length := by omega
  simp [lf3, q1, q2, q3, d0, d1, d2, d3, d4, d5, gG, qM, qi]
 have d5 : ¬ (6 : Int) < ml.length := by omega
 by_cases n6 : fl.length < 1
 ·have d6 : (fl.length : Int) < 1 := by omega
  simp [lf3, q1, q2, q3, q4, d0, d1, d2, d3, d4, d5, d6, gG, qM, qi]
 have d6 : ¬ (fl.length : Int) < 1 := by omega
 by_cases n7 : 30 < fl.length
 ·have d7 : (30 : Int) < fl.length := by omega
  simp [lf3, q1, q2, q3, q4, d0, d1, d2, d3, d4, d5, d6, d7, gG, qM, qi]
 have d7 : ¬ (30 : Int) < fl.length := by omega
 have rr := qx (k := res) (n := 3) (by omega) (by omega)
 obtain ⟨r, hr⟩ : ∃ t, t = res % 3 := ⟨_, rfl⟩
 rw [← hr] at rr
 have r3 : r = 0 ∨ r = 1 ∨ r = 2 := by omega
 have hmx : maxLen = 9223372036854775807 := rfl
 have x2 : 2 ≤ maxLen := by rw [hmx]; omega
 have p0 : ∀ i : Int, putCells (.agg [.p (.int .i64 0), .p (.str []), .tight []]) (.agg [.p (.int .i64 i), .p (.str [102]), .tight []]) 0 3 = some (.agg [.p (.int .i64 i), .p (.str [102]), .tight []]) := fun _ => rfl
 simp [lf3, q1, q2, q3, q4, d0, d1, d2, d3, d4, d5, d6, d7, rr, x2, p0, -putCells, zN, qA, qM, qi, -getElem?_pos, List.getElem?_cons_zero, List.getElem?_cons_succ]
 obtain ⟨L, hL⟩ : ∃ t, t = qQ ss al ml := ⟨_, rfl⟩
 have hLl : L.length = ss.length := by rw [hL]; exact gd (by omega) (by omega)
 refine b0_all (ss := ss) (al := al) (ml := ml) (fl := fl) (r := r) (by omega) (by omega) (by omega) (by omega) ⟨by simp [hc0], by simp [hc2], by simp [hc3], by simp [hc4], by simp, by simp, by simp, by simp [xN], by simp [yN]⟩ rfl (by simp) (by simp) (by simp) fun fr G hF hS => ?_
 obtain ⟨f0, f2, f3, f4, f12, f13, f14, f16, f17⟩ := hF
 obtain ⟨j2, j4, j5, j6, j9, Z, rfl, f11, f15⟩ := hS
 rw [← hL] at f16 f17
 rw [← hL, List.take_of_length_le (by omega)]
 rw [List.take_of_length_le (by omega)] at f16 f17
 have hvl : (v2 r (qW 10 L)).length = 2 + ss.length := by unfold v2; simp only [List.length_cons, cw, hLl]; omega
 rw [← hvl] at f11
 simp
 refine b1_true (ss := ss) (al := al) (ml := ml) (by omega) (by omega) (by omega) (by omega) (by simpa using f0) (by simpa using f11) (by simp) fun fr2 Z' ⟨y4, y12, y13, y14, y15, y16, y17⟩ y11 => ?_
 simp [f4, f12, f13, f14, f15, f16, f17, hc4.symm] at y4 y12 y13 y14 y15 y16 y17
 rw [← hL]
 rw [hvl] at y11
 have hbd := xN_bd (L := L) (fun t ht => gb t (by rw [← hL]; exact ht)) (by omega) L.length
 rw [List.take_of_length_le (Nat.le_refl _)] at hbd
 have hxy : (∀ t ∈ L, t.2.1 = t.2.2) → xN L = yN L := xN_eq
 obtain ⟨X, hX⟩ : ∃ t, t = xN L := ⟨_, rfl⟩
 obtain ⟨Y, hY⟩ : ∃ t, t = yN L := ⟨_, rfl⟩
 rw [← hX] at y16 hbd hxy
 rw [← hY] at y17 hbd hxy
 obtain ⟨ix, hix⟩ := Int.eq_ofNat_of_zero_le (Int.emod_nonneg X (show (fl.length : Int) ≠ 0 by omega))
 obtain ⟨iy, hiy⟩ := Int.eq_ofNat_of_zero_le (Int.emod_nonneg Y (show (fl.length : Int) ≠ 0 by omega))
 have tx : Int.tmod X fl.length = (ix : Int) := by rw [Int.tmod_eq_emod_of_nonneg hbd.1]; exact hix
 have ty : Int.tmod Y fl.length = (iy : Int) := by rw [Int.tmod_eq_emod_of_nonneg hbd.2.2.1]; exact hiy
 have lx : ix < fl.length := by have := Int.emod_lt_of_pos X (show (0 : Int) < fl.length by omega); omega
 have ly : iy < fl.length := by have := Int.emod_lt_of_pos Y (show (0 : Int) < fl.length by omega); omega
 obtain ⟨fx0, hfx⟩ : ∃ x, fl[ix]? = some x := ⟨_, List.getElem?_eq_getElem lx⟩
 obtain ⟨fy0, hfy⟩ : ∃ x, fl[iy]? = some x := ⟨_, List.getElem?_eq_getElem ly⟩
 have gx : c4[ix]? = some (.int .i64 fx0) := by rw [hc4]; unfold iL; rw [List.getElem?_map, hfx]; rfl
 have gy : c4[iy]? = some (.int .i64 fy0) := by rw [hc4]; unfold iL; rw [List.getElem?_map, hfy]; rfl
 have rx := qx (k := fx0) (n := 2) (by omega) (by omega)
 have ry := qx (k := fy0) (n := 2) (by omega) (by omega)
 have hxe : (∀ t ∈ L, t.2.1 = t.2.2) → fx0 % 2 = fy0 % 2 := fun h => by
  have := hxy h
  subst this
  have e : ix = iy := by omega
  subst e
  rw [hfx] at hfy
  cases hfy
  rfl
 obtain ⟨fx, hfx'⟩ : ∃ t, t = fx0 % 2 := ⟨_, rfl⟩
 obtain ⟨fy, hfy'⟩ : ∃ t, t = fy0 % 2 := ⟨_, rfl⟩
 rw [← hfx'] at rx hxe
 rw [← hfy'] at ry hxe
 have hchk := chk_ok (L := L) (r := r) (fx := fx) (fy := fy) (fun t ht => gb t (by rw [← hL]; exact ht)) (by omega) (by omega) r3 (by omega) (by omega) hxe
 obtain ⟨l, m, k1, k2, k3, wl, wm, k4, k5, k6, k7⟩ := chk_facts hchk
 have v1 : sp2 cI cI pB [.int .i64 r, .int .i64 fx] = some (qj r fx).enc := (vD (A := cI) (B := cI) (x := r) (y := fx) trivial trivial).trans (if_pos (by omega))
 have v2' : sp2 cI cI pB [.int .i64 r, .int .i64 fy] = some (qj r fy).enc := (vD (A := cI) (B := cI) (x := r) (y := fy) trivial trivial).trans (if_pos (by omega))
 have hve : ∀ v : Va, v.enc = .agg [.int .i64 v.k, .bool v.b, .bool v.x.s, .lst (v.x.n.map u64), .lst (v.x.d.map u64), .int .i64 v.el] := fun _ => rfl
 have hgf : yo L r fx fy = m7 10 20 L ++ [⟨1, qj r fx⟩, ⟨2, qj r fy⟩] := rfl
 have ge1 : cGv.enc ⟨1, qj r fx⟩ = .agg [.int .i64 1, .int .i64 (qj r fx).k, .bool (qj r fx).b, .bool (qj r fx).x.s, .lst ((qj r fx).x.n.map u64), .lst ((qj r fx).x.d.map u64), .int .i64 (qj r fx).el] := rfl
 have ge2 : cGv.enc ⟨2, qj r fy⟩ = .agg [.int .i64 2, .int .i64 (qj r fy).k, .bool (qj r fy).b, .bool (qj r fy).x.s, .lst ((qj r fy).x.n.map u64), .lst ((qj r fy).x.d.map u64), .int .i64 (qj r fy).el] := rfl
 have wg : cGv.wfL (yo L r fx fy) := by
  rw [hgf]
  intro x hx
  rcases List.mem_append.1 hx with hx | hx
  ·exact givA_wf _ _ _ x hx
  ·simp at hx
   rcases hx with rfl | rfl <;> exact fc _ _
 have hlem : sp3 cVr.lst cMd cMd bW [.lst ((t4 L r).map cVr.enc), cMd.enc (kF 1 10 L), cMd.enc (kF 2 20 L)] = some (.tup [.lst (l.map cLi.enc), .lst (m.map cLi.enc), .int .i64 0]) := (fh (A := cVr.lst) (B := cMd) (C := cMd) (x := t4 L r) (fun _ _ => trivial) trivial trivial).trans k1
 have hcla : sp2 cMd.lst cGv.lst bk [.lst [cMd.enc (kF 1 10 L), cMd.enc (kF 2 20 L)], .lst ((yo L r fx fy).map cGv.enc)] = some (.tup [.int .i64 0, .int .i64 0, .bool false]) := (vD (A := cMd.lst) (B := cGv.lst) (x := [kF 1 10 L, kF 2 20 L]) (y := yo L r fx fy) (fun _ _ => trivial) wg).trans k2
 have ht1 : sp2 cLi.lst cGv.lst u2 [.lst (l.map cLi.enc), .lst ((yo L r fx fy).map cGv.enc)] = some (.bool true) := (vD (A := cLi.lst) (B := cGv.lst) (x := l) (y := yo L r fx fy) wl wg).trans (k4 (by omega))
 have ht2 : m.isEmpty = false → sp2 cLi.lst cGv.lst u2 [.lst (m.map cLi.enc), .lst ((yo L r fx fy).map cGv.enc)] = some (.bool true) := fun h => (vD (A := cLi.lst) (B := cGv.lst) (x := m) (y := yo L r fx fy) wm wg).trans (k5 (by omega) h)
 have me1 : cMd.enc (kF 1 10 L) = .agg [.int .i64 1, .str [102], .lst (iL (yn 10 L))] := rfl
 have me2 : cMd.enc (kF 2 20 L) = .agg [.int .i64 2, .str [102], .lst (iL (yn 20 L))] := rfl
 rw [me1, me2] at hlem hcla
 have oV : Own (((v2 r (qW 10 L) ++ qW 20 L).map cVr.enc).map .p) ((t4 L r).map cVr.enc) := ⟨rfl⟩
 have oA : Own ((iL (yn 10 L)).map .p) (iL (yn 10 L)) := ⟨rfl⟩
 have oB : Own ((iL (yn 20 L)).map .p) (iL (yn 20 L)) := ⟨rfl⟩
 have oG : Own (((yo L r fx fy).map cGv.enc).map .p) ((yo L r fx fy).map cGv.enc) := ⟨rfl⟩
 have lnV : (((v2 r (qW 10 L) ++ qW 20 L).map cVr.enc).map AVal.p).length = 2 + ss.length + ss.length := by rw [List.length_map, List.length_map, List.length_append, hvl, cw, hLl]
 have lnA : ((iL (yn 10 L)).map AVal.p).length = ss.length := by rw [List.length_map, bY, gW, hLl]
 have lnB : ((iL (yn 20 L)).map AVal.p).length = ss.length := by rw [List.length_map, bY, gW, hLl]
 have lnG : (((yo L r fx fy).map cGv.enc).map AVal.p).length = 2 * ss.length + 2 := by rw [List.length_map, List.length_map, hgf, List.length_append, sT, hLl]; rfl
 have l0 : (((m7 10 20 L).map cGv.enc).map AVal.p).length = 2 * ss.length := by rw [List.length_map, List.length_map, sT, hLl]
 have hap : ∀ (e0 e1 e2 e3 e4 e5 e6 e7 e8 e9 : Ent) (T : zb), qC 7 88 38 (.own 10 0 (2 * ss.length) (ss.length - 1)) [.p (.agg [.int .i64 1, .int .i64 (qj r fx).k, .bool (qj r fx).b, .bool (qj r fx).x.s, .lst ((qj r fx).x.n.map u64), .lst ((qj r fx).x.d.map u64), .int .i64 (qj r fx).el]), .p (.agg [.int .i64 2, .int .i64 (qj r fy).k, .bool (qj r fy).b, .bool (qj r fy).x.s, .lst ((qj r fy).x.n.map u64), .lst ((qj r fy).x.d.map u64), .int .i64 (qj r fy).el])] (e0 :: e1 :: e2 :: e3 :: e4 :: e5 :: e6 :: e7 :: e8 :: e9 :: ⟨7, ss.length - 1, false, ((m7 10 20 L).map cGv.enc).map AVal.p, 38⟩ :: T) = some (.own 10 0 (2 * ss.length + 2) (ss.length - 1 + 1), e0 :: e1 :: e2 :: e3 :: e4 :: e5 :: e6 :: e7 :: e8 :: e9 :: ⟨7, ss.length - 1 + 1, false, ((yo L r fx fy).map cGv.enc).map AVal.p, 38⟩ :: T) := fun e0 e1 e2 e3 e4 e5 e6 e7 e8 e9 T => by
  rw [mn (size := 7) (ver := ss.length - 1) (fz := false) (els := ((m7 10 20 L).map cGv.enc).map AVal.p) rfl rfl (by omega) l0.symm (by rw [l0]; simp only [List.length_cons, List.length_nil]; omega) (by rw [l0, hmx]; simp only [List.length_cons, List.length_nil]; omega), hgf]
  simp only [List.map_append, List.set_cons_succ, List.set_cons_zero]
  rfl
 have hf0 : ¬ fl = [] := fun e => by subst e; simp at n6
 have hf1 : ¬ (fl.length : Int) = 0 := by omega
 have hf2 : ¬ fl.length = 0 := by omega
 rw [hve] at v1 v2'
 have hml : (m.map cLi.enc).length = m.length := List.length_map ..
 simp only [vE, iE, gE, mE, List.cons_append]
 obtain ⟨EV, hEV⟩ : ∃ t, t = ((v2 r (qW 10 L) ++ qW 20 L).map cVr.enc).map AVal.p := ⟨_, rfl⟩
 obtain ⟨EA, hEA⟩ : ∃ t, t = (iL (yn 10 L)).map AVal.p := ⟨_, rfl⟩
 obtain ⟨EB, hEB⟩ : ∃ t, t = (iL (yn 20 L)).map AVal.p := ⟨_, rfl⟩
 obtain ⟨EG, hEG⟩ : ∃ t, t = ((yo L r fx fy).map cGv.enc).map AVal.p := ⟨_, rfl⟩
 obtain ⟨E0, hE0⟩ : ∃ t, t = ((m7 10 20 L).map cGv.enc).map AVal.p := ⟨_, rfl⟩
 rw [← hEV] at oV lnV ⊢
 rw [← hEA] at oA lnA ⊢
 rw [← hEB] at oB lnB ⊢
 rw [← hE0] at hap l0 ⊢
 rw [← hEG] at oG lnG hap
 obtain ⟨PV, hPV⟩ : ∃ t, t = (t4 L r).map cVr.enc := ⟨_, rfl⟩
 obtain ⟨PA, hPA⟩ : ∃ t, t = iL (yn 10 L) := ⟨_, rfl⟩
 obtain ⟨PB, hPB⟩ : ∃ t, t = iL (yn 20 L) := ⟨_, rfl⟩
 obtain ⟨PG, hPG⟩ : ∃ t, t = (yo L r fx fy).map cGv.enc := ⟨_, rfl⟩
 obtain ⟨PL, hPL⟩ : ∃ t, t = l.map cLi.enc := ⟨_, rfl⟩
 obtain ⟨PM, hPM⟩ : ∃ t, t = m.map cLi.enc := ⟨_, rfl⟩
 rw [← hPV] at oV hlem
 rw [← hPA] at oA hlem hcla
 rw [← hPB] at oB hlem hcla
 rw [← hPG] at oG hcla ht1 ht2
 rw [← hPL] at hlem ht1
 rw [← hPM] at hlem ht2 hml
 obtain ⟨VX, hVX⟩ : ∃ t, t = qj r fx := ⟨_, rfl⟩
 obtain ⟨VY, hVY⟩ : ∃ t, t = qj r fy := ⟨_, rfl⟩
 rw [← hVX] at v1 hap
 rw [← hVY] at v2' hap
 have rV := fun H n => oV.res H n _ lnV
 have rA := fun H n => oA.res H n _ lnA
 have rB := fun H n => oB.res H n _ lnB
 have rG := fun H n => oG.res H n _ lnG
 have tV := fun H n => oV.tou H n _ lnV
 have tA := fun H n => oA.tou H n _ lnA
 have tB := fun H n => oB.tou H n _ lnB
 have tG := fun H n => oG.tou H n _ lnG
 simp [-qC, -getElem?_pos]
 rw [jk]
 refine ⟨[], ?_⟩
 simp [-qC, y4, y11, y12, y13, y14, y15, y16, y17, q4, tx, ty, gx, gy, rx, ry, v1, v2', hap, hf2, lnV, lnA, lnB, lnG, rV, rA, rB, rG, tV, tA, tB, tG, hlem, hcla, freeze1, zN, qA, bd, qt, qM, qi, -getElem?_pos, List.getElem?_cons_zero, List.getElem?_cons_succ]
 by_cases hr0 : r = 0
 ·have hrb : (r == 0) = true := by simp [hr0]
  have hme : m.isEmpty = false := by
   rw [decide_eq_true hr0] at k3
   cases hm : m.isEmpty with
   | true => rw [hm] at k3; cases k3
   | false => rfl
  have hpos : 0 < PM.length := by
   rw [hml]
   cases m with
   | nil => cases hme
   | cons a b => simp
  have hp1 : decide (0 < PM.length) = true := decide_eq_true hpos
  have hp2 : ((PM.length : Int) == 0) = false := beq_false_of_ne (by omega)
  have ht2' := ht2 hme
  simp [-qC, -beq_iff_eq, -beq_eq_false_iff_ne, -decide_eq_true_eq, hrb, hp1, hp2, ht1, ht2', rG, tG, lnG, gG, freeze1, qM, qi, -getElem?_pos, List.getElem?_cons_zero, List.getElem?_cons_succ]
 ·have hrb : (r == 0) = false := by simp [hr0]
  have hme : m.isEmpty = true := by
   rw [decide_eq_false hr0] at k3
   cases hm : m.isEmpty with
   | true => rfl
   | false => rw [hm] at k3; cases k3
  have hz : PM.length = 0 := by
   rw [hml]
   cases m with
   | nil => rfl
   | cons a b => cases hme
  have hp1 : decide (0 < PM.length) = false := decide_eq_false (by omega)
  have hp2 : ((PM.length : Int) == 0) = true := by rw [hz]; rfl
  simp [-qC, -beq_iff_eq, -beq_eq_false_iff_ne, -decide_eq_true_eq, -decide_eq_false_iff_not, hrb, hp1, hp2, ht1, rG, tG, lnG, gG, freeze1, qM, qi, -getElem?_pos, List.getElem?_cons_zero, List.getElem?_cons_succ]
end Go.Proofs.YtgbjjikaenlkmaaGreat
