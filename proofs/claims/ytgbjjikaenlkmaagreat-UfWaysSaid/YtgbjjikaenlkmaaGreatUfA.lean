/-
  A range backward over a slice; constants, names, variables, rows and tables as pure values. No conditions beyond the lemmas' own hypotheses.
-/
import Derived.Test.YtgbjjikaenlkmaaGreatAbsFour
import Derived.Test.YtgbjjikaenlkmaaGreatNatG
import Derived.RangeFuncBox
import Derived.Shelf.Abstract
import Derived.WalkKit
import Derived.OwnWalkIn
import Derived.TacticsInMore
import Derived.LoopNIn
import Derived.LoopIn
import Derived.Test.YtgbjjikaenlkmaaGreatAtomC
import Derived.Test.YtgbjjikaenlkmaaGreatRatM
set_option linter.unusedSimpArgs false
set_option linter.unnecessarySimpa false
set_option linter.unusedVariables false
set_option linter.constructorNameAsVariable false

/-
 slices.Backward over []Given: what its iterator hands out.
-/
namespace Go.Abs
def PVal.isAgg : PVal → Bool
 | .agg _ => true
 | _ => false
end Go.Abs
namespace Go.Proofs.YtgbjjikaenlkmaaGreat
open Go Go.Abs Go.RowKit Go.Shelf
attribute [local go_sem] Oper.semAt_some
set_option maxRecDepth 100000 in
set_option maxHeartbeats 2000000 in
theorem bG_walk {α : Type} {encs : α → Array Value} (f : Nat → α) (cv : Nat → Nat → Value) (m l Bs b off len cap : Nat) (pr : Prot) (hlen : len ≤ 1000000000) (hen : ∀ k, k < len → encs (f k) = #[.int .i64 k, .agg #[cv k 0, cv k 1, cv k 2, cv k 3, cv k 4, cv k 5, cv k 6]])
  (hp : pr Bs 0 = some (.slice (some ⟨b, off, none⟩) len cap)) (hv : ∀ k, k < len → ∀ j, j < 7 → pr b (off + k * 7 + j) = some (cv k j)) (J Jx : List α → World → Prop)
  (hY : ∀ pre x W, J pre W → pre.length < len → YieldAt Fence.wide (m - 1) Tryz.prog l (encs x) W fun e W' =>
   (e = .returned (.bool true) ∧ J (pre ++ [x]) W' ∧ KeepsProt pr W W') ∨ (e = .returned (.bool false) ∧ Jx (pre ++ [x]) W'))
  (W : World) (hc : ∀ b o v, pr b o = some v → W.cell? ⟨b, o, none⟩ = some v) (h0 : J [] W) :
  CallsIn Fence.wide m Tryz.prog 80 #[.func (.yield l) #[] #[], .pointer (some ⟨Bs, 0, none⟩)] W fun e W' => (∃ v, e = .returned v) ∧
   ((∃ ys, ys = upto (fun j => f (len - 1 - j)) len ∧ J ys W') ∨ (∃ pre, True ∧ Jx pre W')) := by
 refine callsIn_of_wp Tryz.func80 rfl trivial ?_ rfl
 simp only [Tryz.ntmps80, List.size_toArray, List.length_cons, List.length_nil, Nat.reduceAdd, Nat.reduceSub, Array.replicate_succ, Array.replicate_zero, List.push_toArray, List.append_toArray, List.nil_append, List.cons_append]
 have hw0 : IntKind.i64.wrap ((len : Int) - 1) = (len : Int) - 1 := IntWalk.i64_in _ (by omega)
 have hBs := hc _ _ _ hp
 gi_wp2
 gi_loopw [3] (fun i wr => ∃ j : Nat, j ≤ len ∧ i = .int .i64 ((len : Int) - 1 - j) ∧ J (upto (fun j => f (len - 1 - j)) j) wr ∧ (∀ b o v, pr b o = some v → wr.cell? ⟨b, o, none⟩ = some v))
  (fun i _ => (intOf i + 1).toNat)
 case atStart => exact ⟨0, Nat.zero_le _, by simp, h0, hc⟩
 case round =>
  obtain ⟨j, hj, rfl, hJs, hcs⟩ := hrel
  have hB := hcs _ _ _ hp
  by_cases hlt : j < len
  ·obtain ⟨k, hk⟩ : ∃ k : Nat, len - 1 - j = k := ⟨_, rfl⟩
   have hkI : (len : Int) - 1 - j = (k : Int) := by omega
   rw [hkI]
   obtain ⟨fn, tmps, assign, body, hy, hR⟩ := hY _ (f k) wr hJs (by rw [upto_length]; exact hlt)
   rw [hen k (by omega)] at hy
   have hc0 := hcs _ _ _ (hv k (by omega) 0 (by decide))
   have hc1 := hcs _ _ _ (hv k (by omega) 1 (by decide))
   have hc2 := hcs _ _ _ (hv k (by omega) 2 (by decide))
   have hc3 := hcs _ _ _ (hv k (by omega) 3 (by decide))
   have hc4 := hcs _ _ _ (hv k (by omega) 4 (by decide))
   have hc5 := hcs _ _ _ (hv k (by omega) 5 (by decide))
   have hc6 := hcs _ _ _ (hv k (by omega) 6 (by decide))
   rw [Nat.add_zero] at hc0
   have hw1 : IntKind.i64.wrap ((k : Int) - 1) = (k : Int) - 1 := IntWalk.i64_in _ (by omega)
   gi_wp2
   refine ⟨fun h => by simp [Fence.wide] at h, hR.mono ?_⟩
   rintro e W3 (⟨rfl, hJ3, hk3⟩ | ⟨rfl, hJx3⟩)
   ·have hc3 : ∀ b o v, pr b o = some v → W3.cell? ⟨b, o, none⟩ = some v := fun b o v h => hk3 _ _ _ h (hcs b o v h)
    gi_wp2
    go_roundw
    case rel => exact ⟨j + 1, by omega, by congr 1; omega, by rw [upto_succ, hk]; exact hJ3, hc3⟩
    case measure => simp [intOf]
   ·gi_wp2
    refine bodyPost_ret (results_none rfl _ _ _) rfl ?_
    exact ⟨⟨_, rfl⟩, .inr ⟨_, trivial, hJx3⟩⟩
  ·obtain rfl : j = len := by omega
   gi_wp2
   go_end0
   exact ⟨⟨_, rfl⟩, .inl ⟨_, rfl, hJs⟩⟩
set_option maxRecDepth 100000 in
theorem bG_walk_nil {α : Type} (m l Bs cap : Nat) (a : Option Addr) (J : List α → World → Prop) (W : World) (hBs : W.cell? ⟨Bs, 0, none⟩ = some (.slice a 0 cap)) (h0 : J [] W) :
  CallsIn Fence.wide m Tryz.prog 80 #[.func (.yield l) #[] #[], .pointer (some ⟨Bs, 0, none⟩)] W fun e W' => (∃ v, e = .returned v) ∧ J [] W' := by
 refine callsIn_of_wp Tryz.func80 rfl trivial ?_ rfl
 simp only [Tryz.ntmps80, List.size_toArray, List.length_cons, List.length_nil, Nat.reduceAdd, Nat.reduceSub, Array.replicate_succ, Array.replicate_zero, List.push_toArray, List.append_toArray, List.nil_append, List.cons_append]
 have hw0 : IntKind.i64.wrap (-1) = -1 := IntWalk.i64_in _ (by omega)
 gi_wp2
 gi_loopw [3] (fun i wr => i = .int .i64 (-1) ∧ J [] wr) (fun _ _ => 0)
 case atStart => exact ⟨rfl, h0⟩
 case round =>
  obtain ⟨rfl, hJs⟩ := hrel
  gi_wp2
  go_end0
  exact ⟨⟨_, rfl⟩, hJs⟩
theorem bG_stops (m Bs : Nat) (es : List PVal) (hes : ∀ x ∈ es, x.isAgg = true ∧ x.cells.length = 7) (sv : Value) (pr : Prot) (hlen : es.length ≤ 1000000000)
  (hp : pr Bs 0 = some sv) (hsv : PRep pr (.lst es) sv) (w : World) (hw : ∀ b o v, pr b o = some v → w.cell? ⟨b, o, none⟩ = some v ∧ b < w.heap.size) :
  ∃ vals : Nat → Value, (∀ k x, es[k]? = some x → PRep pr x (vals k)) ∧ ∀ {α : Type} {encs : α → Array Value} (f : Nat → α), (∀ k, k < es.length → encs (f k) = #[.int .i64 k, vals k]) →
  SeqStopsK Fence.wide m Tryz.prog 80 #[.pointer (some ⟨Bs, 0, none⟩)] encs (KeepsProt pr) (fun ys => ys = upto (fun j => f (es.length - 1 - j)) es.length) (fun _ => True) es.length w := by
 cases hsv with
 | lst _ a len cap size blk off vals hl hc hm ha hs hpv hr hk =>
  subst hl
  by_cases h0l : es = []
  ·subst h0l
   refine ⟨fun _ => default, fun k x h => by simp at h, fun f hen l J Jx W hW _ _ hY h0 => ?_⟩
   have cell : ∀ b o v, pr b o = some v → W.cell? ⟨b, o, none⟩ = some v := fun b o v h => (hW.cell (p := ⟨b, o, none⟩) (hw b o v h).2).trans (hw b o v h).1
   exact (bG_walk_nil m l Bs cap a J W (cell _ _ _ hp) h0).mono fun e W' ⟨he, hj⟩ => ⟨he, .inl ⟨_, rfl, hj⟩⟩
  ·rw [ha h0l] at hp
   obtain ⟨x0, r0, hx0⟩ : ∃ x0 r0, es = x0 :: r0 := by cases es with | nil => exact absurd rfl h0l | cons a b => exact ⟨a, b, rfl⟩
   have hsz : size = 7 := by
    have h1 := hs x0 (by rw [hx0]; simp)
    have h2 := (hes x0 (by rw [hx0]; simp)).2
    omega
   subst hsz
   have hrep : ∀ k x, es[k]? = some x → PRep pr x (.agg ((List.range 7).map (vals k)).toArray) := fun k x hx => by
    have hxm := List.mem_of_getElem? hx
    obtain ⟨h1, h2⟩ := hes x hxm
    cases x with
    | agg cs =>
     refine .agg cs _ (by simpa [PVal.cells] using h2.symm) (fun j y v hy hv => ?_) (fun y hy => hk _ hxm y hy)
     have hj : j < 7 := by
      have := (List.getElem?_eq_some_iff.1 hy).1
      simp only [PVal.cells] at h2
      omega
     simp only [List.getElem?_map, List.getElem?_range hj, Option.map_some, Option.some.injEq] at hv
     subst hv
     exact hr k _ j y hx hy
    | _ => simp [PVal.isAgg] at h1
   refine ⟨fun k => .agg ((List.range 7).map (vals k)).toArray, hrep, fun f hen l J Jx W hW _ _ hY h0 => ?_⟩
   have cell : ∀ b o v, pr b o = some v → W.cell? ⟨b, o, none⟩ = some v := fun b o v h => (hW.cell (p := ⟨b, o, none⟩) (hw b o v h).2).trans (hw b o v h).1
   exact bG_walk f vals m l Bs blk off es.length cap pr hlen hen hp (fun k hk j hj => hpv k j hk hj) J Jx hY W cell h0
end Go.Proofs.YtgbjjikaenlkmaaGreat

/-
 slices.Backward over []Var: what its iterator hands out.
-/
namespace Go.Proofs.YtgbjjikaenlkmaaGreat
open Go Go.Abs Go.RowKit Go.Shelf
attribute [local go_sem] Oper.semAt_some
set_option maxRecDepth 100000 in
set_option maxHeartbeats 2000000 in
theorem bV_walk {α : Type} {encs : α → Array Value} (f : Nat → α) (cv : Nat → Nat → Value) (m l Bs b off len cap : Nat) (pr : Prot) (hlen : len ≤ 1000000000) (hen : ∀ k, k < len → encs (f k) = #[.int .i64 k, .agg #[cv k 0, cv k 1]])
  (hp : pr Bs 0 = some (.slice (some ⟨b, off, none⟩) len cap)) (hv : ∀ k, k < len → ∀ j, j < 2 → pr b (off + k * 2 + j) = some (cv k j)) (J Jx : List α → World → Prop)
  (hY : ∀ pre x W, J pre W → pre.length < len → YieldAt Fence.wide (m - 1) Tryz.prog l (encs x) W fun e W' =>
   (e = .returned (.bool true) ∧ J (pre ++ [x]) W' ∧ KeepsProt pr W W') ∨ (e = .returned (.bool false) ∧ Jx (pre ++ [x]) W'))
  (W : World) (hc : ∀ b o v, pr b o = some v → W.cell? ⟨b, o, none⟩ = some v) (h0 : J [] W) :
  CallsIn Fence.wide m Tryz.prog 67 #[.func (.yield l) #[] #[], .pointer (some ⟨Bs, 0, none⟩)] W fun e W' => (∃ v, e = .returned v) ∧
   ((∃ ys, ys = upto (fun j => f (len - 1 - j)) len ∧ J ys W') ∨ (∃ pre, True ∧ Jx pre W')) := by
 refine callsIn_of_wp Tryz.func67 rfl trivial ?_ rfl
 simp only [Tryz.ntmps67, List.size_toArray, List.length_cons, List.length_nil, Nat.reduceAdd, Nat.reduceSub, Array.replicate_succ, Array.replicate_zero, List.push_toArray, List.append_toArray, List.nil_append, List.cons_append]
 have hw0 : IntKind.i64.wrap ((len : Int) - 1) = (len : Int) - 1 := IntWalk.i64_in _ (by omega)
 have hBs := hc _ _ _ hp
 gi_wp2
 gi_loopw [3] (fun i wr => ∃ j : Nat, j ≤ len ∧ i = .int .i64 ((len : Int) - 1 - j) ∧ J (upto (fun j => f (len - 1 - j)) j) wr ∧ (∀ b o v, pr b o = some v → wr.cell? ⟨b, o, none⟩ = some v))
  (fun i _ => (intOf i + 1).toNat)
 case atStart => exact ⟨0, Nat.zero_le _, by simp, h0, hc⟩
 case round =>
  obtain ⟨j, hj, rfl, hJs, hcs⟩ := hrel
  have hB := hcs _ _ _ hp
  by_cases hlt : j < len
  ·obtain ⟨k, hk⟩ : ∃ k : Nat, len - 1 - j = k := ⟨_, rfl⟩
   have hkI : (len : Int) - 1 - j = (k : Int) := by omega
   rw [hkI]
   obtain ⟨fn, tmps, assign, body, hy, hR⟩ := hY _ (f k) wr hJs (by rw [upto_length]; exact hlt)
   rw [hen k (by omega)] at hy
   have hc0 := hcs _ _ _ (hv k (by omega) 0 (by decide))
   have hc1 := hcs _ _ _ (hv k (by omega) 1 (by decide))
   rw [Nat.add_zero] at hc0
   have hw1 : IntKind.i64.wrap ((k : Int) - 1) = (k : Int) - 1 := IntWalk.i64_in _ (by omega)
   gi_wp2
   refine ⟨fun h => by simp [Fence.wide] at h, hR.mono ?_⟩
   rintro e W3 (⟨rfl, hJ3, hk3⟩ | ⟨rfl, hJx3⟩)
   ·have hc3 : ∀ b o v, pr b o = some v → W3.cell? ⟨b, o, none⟩ = some v := fun b o v h => hk3 _ _ _ h (hcs b o v h)
    gi_wp2
    go_roundw
    case rel => exact ⟨j + 1, by omega, by congr 1; omega, by rw [upto_succ, hk]; exact hJ3, hc3⟩
    case measure => simp [intOf]
   ·gi_wp2
    refine bodyPost_ret (results_none rfl _ _ _) rfl ?_
    exact ⟨⟨_, rfl⟩, .inr ⟨_, trivial, hJx3⟩⟩
  ·obtain rfl : j = len := by omega
   gi_wp2
   go_end0
   exact ⟨⟨_, rfl⟩, .inl ⟨_, rfl, hJs⟩⟩
set_option maxRecDepth 100000 in
theorem bV_walk_nil {α : Type} (m l Bs cap : Nat) (a : Option Addr) (J : List α → World → Prop) (W : World) (hBs : W.cell? ⟨Bs, 0, none⟩ = some (.slice a 0 cap)) (h0 : J [] W) :
  CallsIn Fence.wide m Tryz.prog 67 #[.func (.yield l) #[] #[], .pointer (some ⟨Bs, 0, none⟩)] W fun e W' => (∃ v, e = .returned v) ∧ J [] W' := by
 refine callsIn_of_wp Tryz.func67 rfl trivial ?_ rfl
 simp only [Tryz.ntmps67, List.size_toArray, List.length_cons, List.length_nil, Nat.reduceAdd, Nat.reduceSub, Array.replicate_succ, Array.replicate_zero, List.push_toArray, List.append_toArray, List.nil_append, List.cons_append]
 have hw0 : IntKind.i64.wrap (-1) = -1 := IntWalk.i64_in _ (by omega)
 gi_wp2
 gi_loopw [3] (fun i wr => i = .int .i64 (-1) ∧ J [] wr) (fun _ _ => 0)
 case atStart => exact ⟨rfl, h0⟩
 case round =>
  obtain ⟨rfl, hJs⟩ := hrel
  gi_wp2
  go_end0
  exact ⟨⟨_, rfl⟩, hJs⟩
theorem bV_stops (m Bs : Nat) (es : List PVal) (hes : ∀ x ∈ es, x.isAgg = true ∧ x.cells.length = 2) (sv : Value) (pr : Prot) (hlen : es.length ≤ 1000000000)
  (hp : pr Bs 0 = some sv) (hsv : PRep pr (.lst es) sv) (w : World) (hw : ∀ b o v, pr b o = some v → w.cell? ⟨b, o, none⟩ = some v ∧ b < w.heap.size) :
  ∃ vals : Nat → Value, (∀ k x, es[k]? = some x → PRep pr x (vals k)) ∧ ∀ {α : Type} {encs : α → Array Value} (f : Nat → α), (∀ k, k < es.length → encs (f k) = #[.int .i64 k, vals k]) →
  SeqStopsK Fence.wide m Tryz.prog 67 #[.pointer (some ⟨Bs, 0, none⟩)] encs (KeepsProt pr) (fun ys => ys = upto (fun j => f (es.length - 1 - j)) es.length) (fun _ => True) es.length w := by
 cases hsv with
 | lst _ a len cap size blk off vals hl hc hm ha hs hpv hr hk =>
  subst hl
  by_cases h0l : es = []
  ·subst h0l
   refine ⟨fun _ => default, fun k x h => by simp at h, fun f hen l J Jx W hW _ _ hY h0 => ?_⟩
   have cell : ∀ b o v, pr b o = some v → W.cell? ⟨b, o, none⟩ = some v := fun b o v h => (hW.cell (p := ⟨b, o, none⟩) (hw b o v h).2).trans (hw b o v h).1
   exact (bV_walk_nil m l Bs cap a J W (cell _ _ _ hp) h0).mono fun e W' ⟨he, hj⟩ => ⟨he, .inl ⟨_, rfl, hj⟩⟩
  ·rw [ha h0l] at hp
   obtain ⟨x0, r0, hx0⟩ : ∃ x0 r0, es = x0 :: r0 := by cases es with | nil => exact absurd rfl h0l | cons a b => exact ⟨a, b, rfl⟩
   have hsz : size = 2 := by
    have h1 := hs x0 (by rw [hx0]; simp)
    have h2 := (hes x0 (by rw [hx0]; simp)).2
    omega
   subst hsz
   have hrep : ∀ k x, es[k]? = some x → PRep pr x (.agg ((List.range 2).map (vals k)).toArray) := fun k x hx => by
    have hxm := List.mem_of_getElem? hx
    obtain ⟨h1, h2⟩ := hes x hxm
    cases x with
    | agg cs =>
     refine .agg cs _ (by simpa [PVal.cells] using h2.symm) (fun j y v hy hv => ?_) (fun y hy => hk _ hxm y hy)
     have hj : j < 2 := by
      have := (List.getElem?_eq_some_iff.1 hy).1
      simp only [PVal.cells] at h2
      omega
     simp only [List.getElem?_map, List.getElem?_range hj, Option.map_some, Option.some.injEq] at hv
     subst hv
     exact hr k _ j y hx hy
    | _ => simp [PVal.isAgg] at h1
   refine ⟨fun k => .agg ((List.range 2).map (vals k)).toArray, hrep, fun f hen l J Jx W hW _ _ hY h0 => ?_⟩
   have cell : ∀ b o v, pr b o = some v → W.cell? ⟨b, o, none⟩ = some v := fun b o v h => (hW.cell (p := ⟨b, o, none⟩) (hw b o v h).2).trans (hw b o v h).1
   exact bV_walk f vals m l Bs blk off es.length cap pr hlen hen hp (fun k hk j hj => hpv k j hk hj) J Jx hY W cell h0
end Go.Proofs.YtgbjjikaenlkmaaGreat

/-
 uf: values, constants, names, literals, rows and tables as pure values, and back.
-/
namespace Go.Proofs.YtgbjjikaenlkmaaGreat
open Go Go.Abs Go.Limbs
set_option maxRecDepth 20000
structure Cd (α : Type) where
 enc : α → PVal
 dec : PVal → Option α
 wf : α → Prop
 de : ∀ x, wf x → dec (enc x) = some x
 ed : ∀ v x, dec v = some x → v = enc x ∧ wf x
def decL {α : Type} (d : PVal → Option α) : List PVal → Option (List α)
 | [] => some []
 | v :: r => match d v with
  | some x => match decL d r with
   | some l => some (x :: l)
   | none => none
  | none => none
def Cd.wfL {α : Type} (A : Cd α) (l : List α) : Prop := ∀ x ∈ l, A.wf x
theorem Cd.deL {α : Type} (A : Cd α) : ∀ l : List α, A.wfL l → decL A.dec (l.map A.enc) = some l
 | [], _ => rfl
 | x :: r, h => by simp only [List.map_cons, decL, A.de x (h x (by simp)), A.deL r (fun y hy => h y (by simp [hy]))]
theorem Cd.edL {α : Type} (A : Cd α) : ∀ (vs : List PVal) (l : List α), decL A.dec vs = some l → vs = l.map A.enc ∧ A.wfL l
 | [], l, h => by cases h; exact ⟨rfl, fun x hx => by cases hx⟩
 | v :: r, l, h => by
  unfold decL at h
  split at h
  ·rename_i x hx
   split at h
   ·rename_i m hm
    cases h
    obtain ⟨rfl, wx⟩ := A.ed v x hx
    obtain ⟨rfl, wm⟩ := A.edL r m hm
    refine ⟨rfl, fun y hy => ?_⟩
    rcases List.mem_cons.1 hy with rfl | hy
    ·exact wx
    ·exact wm y hy
   ·cases h
  ·cases h
def Cd.lst {α : Type} (A : Cd α) : Cd (List α) where
 enc l := .lst (l.map A.enc)
 dec v := match v with | .lst vs => decL A.dec vs | _ => none
 wf := A.wfL
 de l h := A.deL l h
 ed v l h := by
  split at h
  ·obtain ⟨rfl, w⟩ := A.edL _ _ h; exact ⟨rfl, w⟩
  ·cases h
def cI : Cd Int where
 enc n := .int .i64 n
 dec v := match v with | .int .i64 n => some n | _ => none
 wf _ := True
 de _ _ := rfl
 ed v x h := by
  split at h
  ·cases h; exact ⟨rfl, trivial⟩
  ·cases h
structure Va where
 k : Int
 b : Bool
 x : Fr
 el : Int
 deriving DecidableEq
def Va.cells (v : Va) : List PVal := [.int .i64 v.k, .bool v.b, .bool v.x.s, .lst (v.x.n.map u64), .lst (v.x.d.map u64), .int .i64 v.el]
def Va.enc (v : Va) : PVal := .agg v.cells
def decVs : List PVal → Option Va
 | [.int .i64 k, .bool b, .bool s, .lst xs, .lst ys, .int .i64 e] => match decU xs, decU ys with | some l, some m => some ⟨k, b, ⟨s, l, m⟩, e⟩ | _, _ => none
 | _ => none
theorem decVs_cells {v : Va} (h : v.x.wf) : decVs v.cells = some v := by simp only [decVs, Va.cells, decU_map h.1, decU_map h.2]
theorem decVs_some {l : List PVal} {v : Va} (h : decVs l = some v) : l = v.cells ∧ v.x.wf := by
 unfold decVs at h
 split at h
 ·split at h
  ·rename_i hl hm
   cases h
   obtain ⟨rfl, wl⟩ := decU_some hl
   obtain ⟨rfl, wm⟩ := decU_some hm
   exact ⟨rfl, wl, wm⟩
  ·cases h
 ·cases h
def cVa : Cd Va where
 enc := Va.enc
 dec v := match v with | .agg l => decVs l | _ => none
 wf v := v.x.wf
 de v h := decVs_cells h
 ed v x h := by
  split at h
  ·obtain ⟨rfl, w⟩ := decVs_some h; exact ⟨rfl, w⟩
  ·cases h
structure Gv where
 id : Int
 v : Va
def cGv : Cd Gv where
 enc g := .agg (.int .i64 g.id :: g.v.cells)
 dec v := match v with | .agg (.int .i64 n :: l) => (match decVs l with | some v => some ⟨n, v⟩ | none => none) | _ => none
 wf g := g.v.x.wf
 de g h := by simp only [decVs_cells h]
 ed v x h := by
  split at h
  ·split at h
   ·rename_i hv
    cases h
    obtain ⟨rfl, w⟩ := decVs_some hv
    exact ⟨rfl, w⟩
   ·cases h
  ·cases h
structure Md where
 id : Int
 f : List UInt8
 ag : List Int
def cMd : Cd Md where
 enc m := .agg [.int .i64 m.id, .str m.f, .lst (m.ag.map cI.enc)]
 dec v := match v with | .agg [.int .i64 n, .str s, .lst l] => (match decL cI.dec l with | some a => some ⟨n, s, a⟩ | none => none) | _ => none
 wf _ := True
 de m _ := by simp only [cI.deL m.ag (fun _ _ => trivial)]
 ed v x h := by
  split at h
  ·split at h
   ·rename_i hv
    cases h
    obtain ⟨rfl, w⟩ := cI.edL _ _ hv
    exact ⟨rfl, trivial⟩
   ·cases h
  ·cases h
structure Vr where
 id : Int
 k : Int
def cVr : Cd Vr where
 enc g := .agg [.int .i64 g.id, .int .i64 g.k]
 dec v := match v with | .agg [.int .i64 n, .int .i64 k] => some ⟨n, k⟩ | _ => none
 wf _ := True
 de _ _ := rfl
 ed v x h := by
  split at h
  ·cases h; exact ⟨rfl, trivial⟩
  ·cases h
structure Li where
 a : At
 no : Bool
def At.cells (x : At) : List PVal := [.int .i64 x.k, .lst (x.p.ps.map Pa.enc), .bool x.p.c.s, .lst (x.p.c.n.map u64), .lst (x.p.c.d.map u64), .int .i64 x.a, .int .i64 x.b]
def cLi : Cd Li where
 enc l := .agg (l.a.cells ++ [.bool l.no])
 dec v := match v with
  | .agg [.int .i64 k, .lst vs, .bool s, .lst xs, .lst ys, .int .i64 a, .int .i64 b, .bool no] => (match decAt (.agg [.int .i64 k, .lst vs, .bool s, .lst xs, .lst ys, .int .i64 a, .int .i64 b]) with | some x => some ⟨x, no⟩ | none => none)
  | _ => none
 wf l := l.a.p.wf
 de l h := by
  have := decAt_enc h
  unfold At.enc at this
  simp only [At.cells, List.cons_append, List.nil_append, this]
 ed v x h := by
  split at h
  ·split at h
   ·rename_i hv
    cases h
    obtain ⟨e, w⟩ := decAt_some hv
    unfold At.enc at e
    cases e
    exact ⟨rfl, w⟩
   ·cases h
  ·cases h
structure Rw where
 ag : List Va
 v : Va
def cRw : Cd Rw where
 enc r := .agg (.lst (r.ag.map Va.enc) :: r.v.cells)
 dec v := match v with | .agg (.lst l :: c) => (match decL cVa.dec l with | some a => (match decVs c with | some v => some ⟨a, v⟩ | none => none) | none => none) | _ => none
 wf r := cVa.wfL r.ag ∧ r.v.x.wf
 de r h := by
  have := cVa.deL r.ag h.1
  simp only [cVa] at this
  simp only [cVa, this, decVs_cells h.2]
 ed v x h := by
  split at h
  ·split at h
   ·rename_i ha
    split at h
    ·rename_i hv
     cases h
     obtain ⟨rfl, w⟩ := cVa.edL _ _ ha
     obtain ⟨rfl, w'⟩ := decVs_some hv
     exact ⟨rfl, w, w'⟩
    ·cases h
   ·cases h
  ·cases h
structure Tb where
 f : List UInt8
 rows : List Rw
 els : Va
def cTb : Cd Tb where
 enc t := .agg (.str t.f :: .lst (t.rows.map cRw.enc) :: t.els.cells)
 dec v := match v with | .agg (.str f :: .lst l :: c) => (match decL cRw.dec l with | some a => (match decVs c with | some v => some ⟨f, a, v⟩ | none => none) | none => none) | _ => none
 wf t := cRw.wfL t.rows ∧ t.els.x.wf
 de t h := by simp only [cRw.deL t.rows h.1, decVs_cells h.2]
 ed v x h := by
  split at h
  ·split at h
   ·rename_i ha
    split at h
    ·rename_i hv
     cases h
     obtain ⟨rfl, w⟩ := cRw.edL _ _ ha
     obtain ⟨rfl, w'⟩ := decVs_some hv
     exact ⟨rfl, w, w'⟩
    ·cases h
   ·cases h
  ·cases h
def cPr : Cd (Int × Int) where
 enc p := .agg [.int .i64 p.1, .int .i64 p.2]
 dec v := match v with | .agg [.int .i64 a, .int .i64 b] => some (a, b) | _ => none
 wf _ := True
 de _ _ := rfl
 ed v x h := by
  split at h
  ·cases h; exact ⟨rfl, trivial⟩
  ·cases h
def sp1 {α : Type} (A : Cd α) (g : α → Option PVal) : List PVal → Option PVal
 | [a] => match A.dec a with | some x => g x | none => none
 | _ => none
def sp2 {α β : Type} (A : Cd α) (B : Cd β) (g : α → β → Option PVal) : List PVal → Option PVal
 | [a, b] => match A.dec a with | some x => (match B.dec b with | some y => g x y | none => none) | none => none
 | _ => none
def sp3 {α β γ : Type} (A : Cd α) (B : Cd β) (C : Cd γ) (g : α → β → γ → Option PVal) : List PVal → Option PVal
 | [a, b, c] => match A.dec a with | some x => (match B.dec b with | some y => (match C.dec c with | some z => g x y z | none => none) | none => none) | none => none
 | _ => none
theorem sp1_at {α : Type} {A : Cd α} {g : α → Option PVal} {x : α} (h : A.wf x) : sp1 A g [A.enc x] = g x := by simp only [sp1, A.de x h]
theorem sp2_at {α β : Type} {A : Cd α} {B : Cd β} {g : α → β → Option PVal} {x : α} {y : β} (h : A.wf x) (k : B.wf y) : sp2 A B g [A.enc x, B.enc y] = g x y := by simp only [sp2, A.de x h, B.de y k]
theorem sp3_at {α β γ : Type} {A : Cd α} {B : Cd β} {C : Cd γ} {g : α → β → γ → Option PVal} {x : α} {y : β} {z : γ} (h : A.wf x) (k : B.wf y) (m : C.wf z) : sp3 A B C g [A.enc x, B.enc y, C.enc z] = g x y z := by simp only [sp3, A.de x h, B.de y k, C.de z m]
theorem sp1_some {α : Type} {A : Cd α} {g : α → Option PVal} {args : List PVal} {r : PVal} (h : sp1 A g args = some r) : ∃ x, A.wf x ∧ args = [A.enc x] ∧ g x = some r := by
 unfold sp1 at h
 split at h
 ·split at h
  ·rename_i x hx
   obtain ⟨rfl, w⟩ := A.ed _ _ hx
   exact ⟨x, w, rfl, h⟩
  ·cases h
 ·cases h
theorem sp2_some {α β : Type} {A : Cd α} {B : Cd β} {g : α → β → Option PVal} {args : List PVal} {r : PVal} (h : sp2 A B g args = some r) : ∃ x y, A.wf x ∧ B.wf y ∧ args = [A.enc x, B.enc y] ∧ g x y = some r := by
 unfold sp2 at h
 split at h
 ·split at h
  ·rename_i x hx
   split at h
   ·rename_i y hy
    obtain ⟨rfl, w⟩ := A.ed _ _ hx
    obtain ⟨rfl, w'⟩ := B.ed _ _ hy
    exact ⟨x, y, w, w', rfl, h⟩
   ·cases h
  ·cases h
 ·cases h
theorem sp3_some {α β γ : Type} {A : Cd α} {B : Cd β} {C : Cd γ} {g : α → β → γ → Option PVal} {args : List PVal} {r : PVal} (h : sp3 A B C g args = some r) : ∃ x y z, A.wf x ∧ B.wf y ∧ C.wf z ∧ args = [A.enc x, B.enc y, C.enc z] ∧ g x y z = some r := by
 unfold sp3 at h
 split at h
 ·split at h
  ·rename_i x hx
   split at h
   ·rename_i y hy
    split at h
    ·rename_i z hz
     obtain ⟨rfl, w⟩ := A.ed _ _ hx
     obtain ⟨rfl, w'⟩ := B.ed _ _ hy
     obtain ⟨rfl, w''⟩ := C.ed _ _ hz
     exact ⟨x, y, z, w, w', w'', rfl, h⟩
    ·cases h
   ·cases h
  ·cases h
 ·cases h
def tabP (l : List (Int × PVal)) : List AVal := l.foldr (fun p m => mput p.1 p.2 m) []
def lookP (n : Int) : List (Int × PVal) → Option PVal
 | [] => none
 | p :: r => if p.1 = n then some p.2 else lookP n r
theorem mfind_mput (n m : Int) (y : PVal) : ∀ l : List AVal, (∀ x ∈ l, ∃ k z, x = mcell k z) → mfind n (mput m y l) = if m = n then some y else mfind n l
 | [], _ => by
  by_cases h : m = n
  ·subst h; simp [mput, mcell, mfind]
  ·have h' : ¬ n = m := fun e => h e.symm
   simp [mput, mcell, mfind, h, h']
 | x :: r, h => by
  obtain ⟨k, z, rfl⟩ := h x (by simp)
  have ih := mfind_mput n m y r (fun x hx => h x (by simp [hx]))
  by_cases hk : m = k
  ·subst hk
   by_cases hn : m = n
   ·subst hn; simp [mput, mcell, mfind]
   ·have hn' : ¬ n = m := fun e => hn e.symm
    simp [mput, mcell, mfind, hn, hn']
  ·by_cases hn : n = k
   ·subst hn
    simp [mput, mcell, mfind, hk]
   ·simp [mput, mcell, mfind, hk, hn, ih]
theorem mput_mcell (m : Int) (y : PVal) : ∀ l : List AVal, (∀ x ∈ l, ∃ k z, x = mcell k z) → ∀ x ∈ mput m y l, ∃ k z, x = mcell k z
 | [], _, x, hx => by simp [mput] at hx; exact ⟨m, y, hx⟩
 | a :: r, h, x, hx => by
  obtain ⟨k, z, rfl⟩ := h a (by simp)
  by_cases hk : m = k
  ·subst hk
   simp [mput, mcell] at hx
   rcases hx with hx | hx
   ·exact ⟨m, y, hx⟩
   ·exact h x (by simp [hx])
  ·simp [mput, mcell, hk] at hx
   rcases hx with hx | hx
   ·exact ⟨k, z, hx⟩
   ·exact mput_mcell m y r (fun x hx => h x (by simp [hx])) x hx
theorem tabP_mcell : ∀ (l : List (Int × PVal)), ∀ x ∈ tabP l, ∃ k z, x = mcell k z
 | [], x, hx => by simp [tabP] at hx
 | p :: r, x, hx => mput_mcell p.1 p.2 (tabP r) (tabP_mcell r) x hx
theorem mfind_tabP (n : Int) : ∀ l : List (Int × PVal), mfind n (tabP l) = lookP n l
 | [] => rfl
 | p :: r => by
  have : tabP (p :: r) = mput p.1 p.2 (tabP r) := rfl
  rw [this, mfind_mput n p.1 p.2 _ (tabP_mcell r), mfind_tabP n r]
  rfl
end Go.Proofs.YtgbjjikaenlkmaaGreat
