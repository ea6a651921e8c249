/-
  What the reference's MakeAtom, and both sides' opposites, trivial atoms and what holds compute. No conditions beyond the lemmas' own hypotheses.
-/
import Derived.Test.YtepfpgnjpkcgmaaGreatAtomB
set_option linter.unusedSimpArgs false
set_option linter.unnecessarySimpa false
set_option linter.unusedVariables false
set_option linter.constructorNameAsVariable false

/-
  Atoms: the reference's making; opposites, what is trivial, what holds: both sides.
-/
namespace Go.Proofs.YtepfpgnjpkcgmaaGreat
open Go Go.Abs Go.Limbs
variable {base : Prot}
set_option maxRecDepth 20000
attribute [local irreducible] vc
attribute [local simp] pureS touchV freezeL fuel shiftV u64 au
/-! ### What a sum says of itself -/
/-! ### The same -/
/-! ### What is trivial -/
def triv (x : At) : Bool × Bool := if x.ok && isSum x.k && decide (x.p.ps = []) then (soF x.k (signF x.p.c), true) else (false, false)
def trivP (x : At) : PVal := .tup [.bool (triv x).1, .bool (triv x).2]
theorem len_pos {α : Type} (l : List α) : decide ((0 : Int) < (l.length : Int)) = !decide (l = []) := by
  cases l with
  | nil => rfl
  | cons _ _ => simp
def Tatv : Tab := (((Tab.none.with 46 (pureS (h1 okAt))).with 109 (pureS sSum)).with 110 (pureS sSo)).with 87 (pureS (f1 signP))
theorem Tatv_ok : TabOk Tryz.prog base Tatv := Tab.with_ok (Tab.with_ok (Tab.with_ok (Tab.with_ok Tab.none_ok avalid_ok) asum_ok) aso_ok) qsign_ok
theorem Tatv_mu (f : FuncId) (a : List AVal) (H : Heap) : Tatv.mu f a H = none := (rfl)
theorem Tatv_fns : Tatv.fn 46 = (pureS (h1 okAt)) ∧ Tatv.fn 109 = (pureS sSum) ∧ Tatv.fn 110 = (pureS sSo) ∧ Tatv.fn 87 = (pureS (f1 signP)) := ⟨rfl, rfl, rfl, rfl⟩
theorem sSo_at (k s : Int) : sSo [.int .i64 k, .int .i64 s] = some (.bool (soF k s)) := rfl
theorem atriv_ok : FnOk Tryz.prog base 40 (pureS (h1 trivP)) := by
  refine pure_of_vc hmix Tatv_ok globNone low40 fun args z hs hf => ?_
  obtain ⟨x, wx, rfl, rfl⟩ := h1_some hs
  refine ⟨by simp [lf40], ?_⟩
  have v1 : h1 okAt [x.enc] = some (.bool x.ok) := h1_at wx
  have v2 := sSum_at x.k
  have v3 : f1 signP [x.p.c.enc] = some (.int .i64 (signF x.p.c)) := f1_at wx.2
  have v4 := sSo_at x.k (signF x.p.c)
  have hl := len_pos x.p.ps
  unfold trivP triv
  obtain ⟨a, ha⟩ : ∃ a, a = x.ok := ⟨_, rfl⟩
  obtain ⟨b, hb⟩ : ∃ a, a = isSum x.k := ⟨_, rfl⟩
  obtain ⟨c, hc⟩ : ∃ a, a = decide (x.p.ps = []) := ⟨_, rfl⟩
  obtain ⟨d, hd⟩ : ∃ a, a = soF x.k (signF x.p.c) := ⟨_, rfl⟩
  rw [← ha] at v1 ⊢
  rw [← hb] at v2 ⊢
  rw [← hc] at hl ⊢
  rw [← hd] at v4 ⊢
  simp only [At.enc, Po.enc, Fr.enc] at v1 v2 v3 v4 ⊢
  have hl' : decide (0 < x.p.ps.length) = !c := by rw [← hl]; exact decide_eq_decide.2 (by omega)
  cases a <;> cases b <;> cases c <;> simp only [Bool.not_false, Bool.not_true] at hl' <;> simp [lf40, v1, v2, v3, v4, hl', Tatv_mu, Tatv_fns]
end Go.Proofs.YtepfpgnjpkcgmaaGreat

/-
  Atoms: opposites and what holds, both sides.
-/
namespace Go.Proofs.YtepfpgnjpkcgmaaGreat
open Go Go.Abs Go.Limbs
variable {base : Prot}
set_option maxRecDepth 20000
attribute [local irreducible] vc
attribute [local simp] pureS touchV freezeL fuel shiftV u64 au
/-! ### Opposites -/
def notAt (x : At) : At × Bool :=
  if x.ok && (decide (x.k = 1) || decide (x.k = 2)) then
    (if (scalePo x.p (ofQ (-1))).2 = 0 then ((makeAt (3 - x.k) (scalePo x.p (ofQ (-1))).1).1, decide ((makeAt (3 - x.k) (scalePo x.p (ofQ (-1))).1).2.2 = 0)) else (zAt, false))
  else (zAt, false)
def notP (x : At) : PVal := .tup [(notAt x).1.enc, .bool (notAt x).2]
theorem len_scaleF {k : Fr} : ∀ {l r : List Pa}, scaleF k l = some r → r.length = l.length
  | [], r, h => by rw [scaleF] at h; cases h; rfl
  | x :: l, r, h => by
    rw [scaleF] at h
    split at h
    · rw [Option.map_eq_some_iff] at h
      obtain ⟨s, hs, rfl⟩ := h
      rw [List.length_cons, List.length_cons, len_scaleF hs]
    · cases h
theorem few_scalePo {p : Po} {k : Fr} (h : p.few = true) : (scalePo p k).1.few = true := by
  have h0 := few_le h
  have key : (scalePo p k).1.ps.length ≤ p.ps.length := by
    unfold scalePo
    split
    · split
      · split
        · exact Nat.zero_le _
        · cases hs : scaleF k p.ps with
          | none => exact Nat.zero_le _
          | some r => exact Nat.le_of_eq (len_scaleF hs)
      · exact Nat.zero_le _
    · exact Nat.zero_le _
  unfold Po.few
  exact decide_eq_true (by omega)
def Tnt : Tab := (((Tab.none.with 46 (pureS (h1 okAt))).with 95 (pureS sQOf)).with 19 (pureS (gks scaleP))).with 54 (pureS (ki makeP))
theorem Tnt_ok : TabOk Tryz.prog base Tnt := Tab.with_ok (Tab.with_ok (Tab.with_ok (Tab.with_ok Tab.none_ok avalid_ok) qof_ok) scale_ok) amake_ok
theorem Tnt_mu (f : FuncId) (a : List AVal) (H : Heap) : Tnt.mu f a H = none := (rfl)
theorem Tnt_fns : Tnt.fn 46 = (pureS (h1 okAt)) ∧ Tnt.fn 95 = (pureS sQOf) ∧ Tnt.fn 19 = (pureS (gks scaleP)) ∧ Tnt.fn 54 = (pureS (ki makeP)) := ⟨rfl, rfl, rfl, rfl⟩
set_option maxHeartbeats 2000000 in
theorem anot_ok : FnOk Tryz.prog base 38 (pureS (h1s notP)) := by
  refine pure_of_vc hmix Tnt_ok globNone low38 fun args z hs hf => ?_
  obtain ⟨⟨k, p, a, b⟩, wx, fx, rfl, rfl⟩ := h1s_some hs
  refine ⟨by simp [lf38], ?_⟩
  simp only at wx fx
  have v1 : h1 okAt [(At.mk k p a b).enc] = some (.bool (At.mk k p a b).ok) := h1_at wx
  have ek : ∀ n : Int, (k == n) = decide (k = n) := fun n => rfl
  have nk : ∀ n : Int, (k != n) = decide (k ≠ n) := fun n => by rw [bne, ek]; simp
  unfold notP notAt
  obtain ⟨o, ho⟩ : ∃ o, o = (At.mk k p a b).ok := ⟨_, rfl⟩
  rw [← ho] at v1 ⊢
  simp only
  cases o with
  | false =>
    simp only [At.enc, Po.enc, Fr.enc, zAt, zPo, zF, List.map_nil] at v1 ⊢
    simp [lf38, v1, zAt, zPo, zF, Tnt_mu, Tnt_fns]
  | true =>
  by_cases hk : k = 1 ∨ k = 2
  · have hk2 : (decide (k = 1) || decide (k = 2)) = true := by simpa using hk
    rw [hk2]
    have om1 := ofR (n := -1) (d := 1) (by decide)
    have w1 : IntKind.i64.wrap 1 = 1 := rfl
    have w2 : IntKind.i64.wrap 2 = 2 := rfl
    rw [m1_eq] at om1
    have v2 : gks scaleP [p.enc, (ofQ (-1)).enc] = some (pairPo (scalePo p (ofQ (-1)))) := gks_at wx (wf_ofQ _) fx
    have ws := wf_scalePo p (ofQ (-1))
    have fs := few_scalePo (k := ofQ (-1)) fx
    obtain ⟨s, hs'⟩ : ∃ s, s = scalePo p (ofQ (-1)) := ⟨_, rfl⟩
    rw [← hs'] at v2 ws fs ⊢
    have v3 : ki makeP [.int .i64 (3 - k), s.1.enc] = some (tripAt (makeAt (3 - k) s.1)) := ki_at ws fs
    obtain ⟨m, hm⟩ : ∃ m, m = makeAt (3 - k) s.1 := ⟨_, rfl⟩
    rw [← hm] at v3 ⊢
    obtain ⟨y, hy⟩ : ∃ y, y = ofQ (-1) := ⟨_, rfl⟩
    rw [← hy] at v2 om1
    unfold pairPo at v2
    unfold tripAt at v3
    simp only [Bool.and_self, if_true]
    by_cases e : s.2 = 0
    · rw [if_pos e]
      rw [e] at v2
      simp only
      have em : ((m.2.2 : Int) == 0) = decide (m.2.2 = 0) := by rw [Bool.eq_iff_iff]; simp
      obtain ⟨u, hu⟩ : ∃ u, u = decide (m.2.2 = 0) := ⟨_, rfl⟩
      rw [← hu] at em ⊢
      simp only [At.enc, Po.enc, Fr.enc] at v1 v2 v3 om1 ⊢
      rcases hk with rfl | rfl
      all_goals
        simp [lf38, v1, Tnt_mu, Tnt_fns]
        rw [vc_regionW]
        refine ⟨[], ?_⟩
        simp at v3
        simp [om1, v2, v3, em, w1, w2, fillS, Tnt_mu, Tnt_fns]
        all_goals exact keepT rfl
    · rw [if_neg e]
      have eb : ((s.2 : Int) != 0) = true := by simp; omega
      simp only [At.enc, Po.enc, Fr.enc, zAt, zPo, zF, List.map_nil] at v1 v2 om1 ⊢
      rcases hk with rfl | rfl
      all_goals
        simp [lf38, v1, Tnt_mu, Tnt_fns]
        rw [vc_regionW]
        refine ⟨[], ?_⟩
        simp [om1, v2, eb, e, fillS, zAt, zPo, zF, Tnt_mu, Tnt_fns]
        all_goals exact keepT rfl
  · have hk2 : (decide (k = 1) || decide (k = 2)) = false := by simpa using hk
    rw [hk2]
    have hk3 : ¬ k = 1 := fun h => hk (.inl h)
    have hk4 : ¬ k = 2 := fun h => hk (.inr h)
    simp only [At.enc, Po.enc, Fr.enc, zAt, zPo, zF, List.map_nil] at v1 ⊢
    simp [lf38, v1, nk, hk3, hk4, zAt, zPo, zF, Tnt_mu, Tnt_fns]
/-! ### What holds -/
def holdsAt (lk : Int → Fr) (x : At) : Bool × Nat :=
  if isSum x.k && x.ok then (decide ((valuePo lk x.p).2 = 0) && soF x.k (signF (valuePo lk x.p).1), (valuePo lk x.p).2) else (false, 1)
def holdsPr (r : Bool × Nat) : PVal := .tup [.bool r.1, .int .i64 r.2]
def sHolds (L : Lk) : List PVal → Option PVal
  | [a, c] => match decAt a with | some x => if x.p.few = true then (match L c x.p with | some lk => some (holdsPr (holdsAt lk x)) | none => none) else none | none => none
  | _ => none
theorem sHolds_at {L : Lk} {x : At} {c : PVal} {lk : Int → Fr} (wx : x.p.wf) (fx : x.p.few = true) (hl : L c x.p = some lk) : sHolds L [x.enc, c] = some (holdsPr (holdsAt lk x)) := by simp only [sHolds, decAt_enc wx, fx, if_true, hl]
def Thd (L : Lk) : Tab := ((((Tab.none.with 109 (pureS sSum)).with 46 (pureS (h1 okAt))).with 23 (pureS (sValue L))).with 87 (pureS (f1 signP))).with 110 (pureS sSo)
theorem Thd_mu (L : Lk) (f : FuncId) (a : List AVal) (H : Heap) : (Thd L).mu f a H = none := (rfl)
theorem Thd_fns (L : Lk) : (Thd L).fn 109 = (pureS sSum) ∧ (Thd L).fn 46 = (pureS (h1 okAt)) ∧ (Thd L).fn 23 = (pureS (sValue L)) ∧ (Thd L).fn 87 = (pureS (f1 signP)) ∧ (Thd L).fn 110 = (pureS sSo) := ⟨rfl, rfl, rfl, rfl, rfl⟩
theorem aholds_ok {L : Lk} (hv : FnOk Tryz.prog base 23 (pureS (sValue L))) : FnOk Tryz.prog base 42 (pureS (sHolds L)) := by
  refine pure_of_vc (T := Thd L) hmix (Tab.with_ok (Tab.with_ok (Tab.with_ok (Tab.with_ok (Tab.with_ok Tab.none_ok asum_ok) avalid_ok) hv) qsign_ok) aso_ok) globNone low42 fun args z hs hf => ?_
  unfold sHolds at hs
  split at hs
  case h_2 => cases hs
  rename_i a c
  split at hs
  case h_2 => cases hs
  rename_i x hx
  obtain ⟨rfl, wx⟩ := decAt_some hx
  split at hs
  case isFalse => cases hs
  rename_i fx
  split at hs
  case h_2 => cases hs
  rename_i lk hl
  cases hs
  refine ⟨by simp [lf42], ?_⟩
  have v1 := sSum_at x.k
  have v2 : h1 okAt [x.enc] = some (.bool x.ok) := h1_at wx
  have v3 := sValue_at wx fx hl
  have wv := wf_valuePo (lk := lk) wx
  unfold holdsPr holdsAt
  obtain ⟨v, hv'⟩ : ∃ v, v = valuePo lk x.p := ⟨_, rfl⟩
  rw [← hv'] at v3 wv ⊢
  have v4 : f1 signP [v.1.enc] = some (.int .i64 (signF v.1)) := f1_at wv
  have v5 := sSo_at x.k (signF v.1)
  have em : ((v.2 : Int) == 0) = decide (v.2 = 0) := by rw [Bool.eq_iff_iff]; simp
  obtain ⟨b1, hb1⟩ : ∃ b, b = isSum x.k := ⟨_, rfl⟩
  obtain ⟨b2, hb2⟩ : ∃ b, b = x.ok := ⟨_, rfl⟩
  obtain ⟨b3, hb3⟩ : ∃ b, b = decide (v.2 = 0) := ⟨_, rfl⟩
  obtain ⟨b4, hb4⟩ : ∃ b, b = soF x.k (signF v.1) := ⟨_, rfl⟩
  rw [← hb1] at v1 ⊢
  rw [← hb2] at v2 ⊢
  rw [← hb4] at v5
  unfold pairF at v3
  simp only [At.enc, Po.enc, Fr.enc] at v1 v2 v3 v4 v5 ⊢
  cases b1
  · simp [lf42, v1, Thd_mu, Thd_fns]
  · cases b2
    · simp [lf42, v1, v2, Thd_mu, Thd_fns]
    · simp only [Bool.and_self, if_true]
      rw [← hb3, ← hb4]
      rw [← hb3] at em
      cases b3 <;> simp [lf42, v1, v2, v3, v4, v5, em, Thd_mu, Thd_fns]
end Go.Proofs.YtepfpgnjpkcgmaaGreat
