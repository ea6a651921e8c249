/-
  What the reference's functions of sums, differences, products and the order compute, for at most 100000 limbs.
-/
import Derived.Test.YtoechbpjfkabmaaGreatDoorRefJ
import Derived.Test.YtoechbpjfkabmaaGreatDoorNatE
set_option linter.unusedSimpArgs false
set_option linter.unusedVariables false
set_option linter.constructorNameAsVariable false

/-
  The reference: rows of limbs without zeros at the end, their order, what is a number, sizes.
-/
namespace Go.Proofs.YtoechbpjfkabmaaGreatDoor
open Go Go.Abs Go.Limbs
variable {base : Prot}
set_option maxRecDepth 20000
attribute [local irreducible] vc
attribute [local simp] pureS touchV freezeL fuel shiftV u64 au
theorem au_comp : AVal.p ∘ u64 = au := rfl
theorem au_cells (ys : List Nat) : (ys.map au).all (fun y => y.cells.length == 1 && y.cells.all AVal.isCell) = true := by
  rw [List.all_eq_true]
  intro x hx
  obtain ⟨y, _, rfl⟩ := List.mem_map.1 hx
  rfl
/-- Limbs appended to an own array, and to none. -/
theorem app_num {H : Heap} {k ver : Nat} {out ys : List Nat} (hk : H[k]? = some (rowE ver out)) (hn : out.length + ys.length ≤ 1000000) :
    appV 1 8 53 (.own k 0 out.length ver) (ys.map au) H = some (.own k 0 (out.length + ys.length) (ver + 1), H.set k (rowE (ver + 1) (out ++ ys))) := by
  have hm : maxLen = 9223372036854775807 := rfl
  unfold appV
  rw [if_pos ⟨au_cells ys, by decide⟩]
  simp only
  rw [hk]
  simp only [rowE]
  rw [if_pos (by simp; omega)]
  simp
theorem rtrim_ok : FnOk Tryz.prog base 106 (pureS sTrim) := by
  refine pure_of_vc hmix Tab.none_ok globNone low106 fun args z hs hf => ?_
  unfold sTrim at hs
  split at hs
  case h_2 => cases hs
  rename_i es
  split at hs
  case h_2 => cases hs
  rename_i l hd
  split at hs
  case isFalse => cases hs
  rename_i hl
  obtain ⟨rfl, hw⟩ := decU_some hd
  cases hs
  refine ⟨by simp [lf106], ?_⟩
  simp [lf106]
  simp only [lf106_B0, vc_block]
  refine loop_ind (fun fr H => ∃ n : Nat, H = [] ∧ n ≤ l.length ∧ val (l.take n) = val l ∧ fr 0 = .p (.lst (l.map u64)) ∧ fr 3 = .p (.int .i64 n)) (fun fr _ => ivar (fr 3)) ⟨l.length, rfl, by omega, by simp, by simp, by simp⟩ ?_
  rintro fr H ⟨n, rfl, hn, hv, h0, h3⟩
  have hcap := mul_capI n (by omega)
  have hnI : (n : Int) ≤ l.length := by omega
  by_cases h : 0 < n
  · have hI : (0 : Int) < n := by omega
    obtain ⟨x, hx⟩ : ∃ x, l[n - 1]? = some x := ⟨_, List.getElem?_eq_getElem (by omega)⟩
    obtain ⟨n1, hn1⟩ : ∃ t, t = n - 1 := ⟨_, rfl⟩
    rw [← hn1] at hx
    have hw1 : IntKind.i64.wrap ((n : Int) - 1) = (n1 : Int) := by rw [IntWalk.i64_in _ (by omega)]; omega
    have hlt : n1 < l.length := by omega
    by_cases hz : x = 0
    · subst hz
      simp [h0, h3, hI, h, hw1, hx, getE hx, ivar]
      refine ⟨⟨n1, by omega, ?_, rfl⟩, by omega⟩
      have := trim_step (a := l) (n := n1) hx
      rw [show n1 + 1 = n by omega] at this
      rw [← this, hv]
    · have hb : ((x : Int) == 0) = false := beq_false_of_ne (by omega)
      have hres : numP (val l) = .lst ((l.take n).map u64) := by
        rw [trim_done (a := l) (n := n) hw hv (.inr ⟨x, by rw [← hn1]; exact hx, hz⟩)]; rfl
      have hln : (l.take n).length = n := by rw [List.length_take]; omega
      have happ := app_num (H := [rowE 0 []]) (k := 0) (ver := 0) (out := []) (ys := l.take n) rfl (by simp; omega)
      rw [hln] at happ
      simp only [List.map_take, List.length_nil, Nat.zero_add, List.nil_append, List.set_cons_zero] at happ
      simp [rowE, au_comp, -appV] at happ
      simp [h0, h3, hI, h, hw1, hx, getE hx, hb, hres, hcap, hnI, fillS, mapO_au, touch_au, au_comp, happ, -appV]
      refine ⟨by rw [Nat.min_eq_left hn]; exact Nat.le_refl _, ?_⟩
      rw [List.take_take, Nat.min_self, mapO_au_take]
  · have hn0 : n = 0 := by omega
    subst hn0
    have hz : val l = 0 := by rw [← hv]; rfl
    simp [h0, h3, hz, numP, lstP, limbs_zero, fillS]
end Go.Proofs.YtoechbpjfkabmaaGreatDoor

/-
  The reference: sums and differences.
-/
namespace Go.Proofs.YtoechbpjfkabmaaGreatDoor
open Go Go.Abs Go.Limbs
variable {base : Prot}
set_option maxRecDepth 20000
attribute [local irreducible] vc
attribute [local simp] pureS touchV freezeL fuel shiftV u64 au
/-- A row that is appended to: none yet, or an own array. -/
def IsRow (H : Heap) (x : AVal) (l : List Nat) : Prop := (l = [] ∧ x = .tight []) ∨ ∃ j ver, x = .own j 0 l.length ver ∧ H[j]? = some (rowE ver l)
theorem IsRow.own {H : Heap} {j ver : Nat} {l : List Nat} (h : H[j]? = some (rowE ver l)) : IsRow H (.own j 0 l.length ver) l := .inr ⟨j, ver, rfl, h⟩
end Go.Proofs.YtoechbpjfkabmaaGreatDoor

/-
  The reference: products.
-/
namespace Go.Proofs.YtoechbpjfkabmaaGreatDoor
open Go Go.Abs Go.Limbs
variable {base : Prot}
set_option maxRecDepth 20000
attribute [local irreducible] vc
attribute [local simp] pureS touchV freezeL fuel shiftV u64 au
end Go.Proofs.YtoechbpjfkabmaaGreatDoor

/-
  The reference's answers for sums, differences, products and the order.
-/
namespace Go.Proofs.YtoechbpjfkabmaaGreatDoor
open Go Go.Abs Go.Limbs
variable {base : Prot}
set_option maxRecDepth 20000
attribute [local irreducible] vc
attribute [local simp] pureS touchV freezeL fuel shiftV u64 au
end Go.Proofs.YtoechbpjfkabmaaGreatDoor
