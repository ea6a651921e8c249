/-
  AtomOpposites answers true on all values. No conditions.
-/
import Derived.Test.YtepfpgnjpkcgmaaGreatAtomD
import Derived.Test.YtepfpgnjpkcgmaaGreatAtomF
set_option linter.unusedSimpArgs false
set_option linter.unnecessarySimpa false
set_option linter.unusedVariables false
set_option linter.constructorNameAsVariable false

/-
  Values of sums of fractions: the plain law.
-/
namespace Go.Proofs.YtepfpgnjpkcgmaaGreat
open Go Go.Abs Go.Limbs
set_option maxRecDepth 20000
def sumQ (l : Int → Rat) : QP → Rat → Rat
  | [], s => s
  | x :: r, s => sumQ l r (s + x.1 * l x.2)
def lkQ (l : Int → Rat) : Int → Fr := fun i => ofQ (l i)
theorem sumF_step {lk : Int → Fr} {x : Pa} {r : List Pa} {s : Fr} {m : Fr × Nat} (hm : mulF x.c (lk x.t) = m) : sumF lk (x :: r) s = if m.2 = 0 then (if (addF s m.1).2 = 0 then sumF lk r (addF s m.1).1 else (zF, 4)) else (zF, 4) := by subst hm; rfl
theorem sumF_st {l : Int → Rat} {x : Rat × Int} {r : QP} {s : Rat} (hx : Sm 64 x.1) (hl : Sm 64 (l x.2)) (hs : Sm 64 s) :
    sumF (lkQ l) ((x :: r).map ofA) (ofQ s) = if Sm 64 (x.1 * l x.2) ∧ Sm 64 (s + x.1 * l x.2) then sumF (lkQ l) (r.map ofA) (ofQ (s + x.1 * l x.2)) else (zF, 4) := by
  have hm : mulF (ofA x).c (lkQ l (ofA x).t) = heldQ (x.1 * l x.2) := by
    show mulF (ofQ x.1) (ofQ (l x.2)) = _
    exact mulF_num hx hl
  rw [List.map_cons, sumF_step hm]
  by_cases h1 : Sm 64 (x.1 * l x.2)
  · rw [heldQ_ok h1]
    simp only [if_true]
    rw [addF_num hs h1]
    by_cases h2 : Sm 64 (s + x.1 * l x.2)
    · rw [heldQ_ok h2, if_pos (show Sm 64 (x.1 * l x.2) ∧ Sm 64 (s + x.1 * l x.2) from ⟨h1, h2⟩)]
      simp only [if_true]
    · rw [if_neg (show ¬ (Sm 64 (x.1 * l x.2) ∧ Sm 64 (s + x.1 * l x.2)) from fun h => h2 h.2), show heldQ (s + x.1 * l x.2) = (zF, 4) from if_neg h2]
      exact if_neg (by decide : ¬ (4 : Nat) = 0)
  · rw [if_neg (show ¬ (Sm 64 (x.1 * l x.2) ∧ Sm 64 (s + x.1 * l x.2)) from fun h => h1 h.1), show heldQ (x.1 * l x.2) = (zF, 4) from if_neg h1]
    exact if_neg (by decide : ¬ (4 : Nat) = 0)
theorem sumF_of {l : Int → Rat} (hl : ∀ i, Sm 64 (l i)) : ∀ {ps : QP} {s : Rat}, SmP 64 ps → Sm 64 s → (sumF (lkQ l) (ps.map ofA) (ofQ s)).2 = 0 → sumF (lkQ l) (ps.map ofA) (ofQ s) = (ofQ (sumQ l ps s), 0) ∧ Sm 64 (sumQ l ps s)
  | [], s, _, hs, _ => ⟨rfl, hs⟩
  | x :: r, s, hp, hs, h => by
    rw [sumF_st (hp x (by simp)) (hl _) hs] at h ⊢
    split at h
    · rename_i h1
      rw [if_pos h1]
      exact sumF_of hl (fun y hy => hp y (by simp [hy])) h1.2 h
    · cases h
theorem sumF_neg {l : Int → Rat} (hl : ∀ i, Sm 64 (l i)) : ∀ {ps : QP} {s : Rat}, SmP 64 ps → Sm 64 s → (sumF (lkQ l) (ps.map ofA) (ofQ s)).2 = 0 → (sumF (lkQ l) ((mulQ (-1) ps).map ofA) (ofQ (-s))).2 = 0
  | [], s, _, hs, _ => rfl
  | x :: r, s, hp, hs, h => by
    have hx : Sm 64 x.1 := hp x (by simp)
    rw [sumF_st hx (hl _) hs] at h
    have hx' : Sm 64 (x.1 * -1) := by rw [show x.1 * -1 = -x.1 by grind]; exact Sm_neg hx
    rw [show mulQ (-1) (x :: r) = (x.1 * -1, x.2) :: mulQ (-1) r from rfl, sumF_st hx' (hl _) (Sm_neg hs)]
    split at h
    · rename_i h1
      have e1 : x.1 * -1 * l x.2 = -(x.1 * l x.2) := by grind
      have e2 : -s + -(x.1 * l x.2) = -(s + x.1 * l x.2) := by grind
      simp only [e1, e2]
      rw [if_pos ⟨Sm_neg h1.1, Sm_neg h1.2⟩]
      exact sumF_neg hl (fun y hy => hp y (by simp [hy])) h1.2 h
    · cases h
theorem sumQ_mul (l : Int → Rat) (k : Rat) : ∀ (ps : QP) (s : Rat), sumQ l (mulQ k ps) (s * k) = sumQ l ps s * k
  | [], s => rfl
  | x :: r, s => by
    show sumQ l (mulQ k r) (s * k + x.1 * k * l x.2) = sumQ l r (s + x.1 * l x.2) * k
    rw [← sumQ_mul l k r, show s * k + x.1 * k * l x.2 = (s + x.1 * l x.2) * k by grind]
def valQ (l : Int → Rat) (P : Qo) : Rat := sumQ l P.ps P.c
theorem val_scale (l : Int → Rat) {k : Rat} (hk : k ≠ 0) (P : Qo) : valQ l (scaleQ P k) = valQ l P * k := by
  unfold valQ scaleQ
  rw [if_neg hk]
  exact sumQ_mul l k P.ps P.c
theorem value_of {l : Int → Rat} (hl : ∀ i, Sm 64 (l i)) {P : Qo} (hP : P.Is 64) (h : (valuePo (lkQ l) (ofP P)).2 = 0) : valuePo (lkQ l) (ofP P) = (ofQ (valQ l P), 0) ∧ Sm 64 (valQ l P) := by
  have ha : ((ofP P).ps.all fun x => (lkQ l x.t).ok) = true := List.all_eq_true.2 fun x _ => ok_ofQ (hl _)
  unfold valuePo at h ⊢
  rw [ok_ofP hP, ha] at h ⊢
  exact sumF_of hl hP.sp hP.sc h
theorem value_neg {l : Int → Rat} (hl : ∀ i, Sm 64 (l i)) {P : Qo} (hP : P.Is 63) (h : (valuePo (lkQ l) (ofP P)).2 = 0) : (valuePo (lkQ l) (ofP (scaleQ P (-1)))).2 = 0 := by
  have ha : ∀ p : Po, (p.ps.all fun x => (lkQ l x.t).ok) = true := fun p => List.all_eq_true.2 fun x _ => ok_ofQ (hl _)
  unfold valuePo at h ⊢
  rw [ok_ofP (hP.mono (by decide)), ha] at h
  rw [ok_ofP ((scaleQ_is hP smm1).mono (by decide)), ha]
  simp only [Bool.and_self, if_true] at h ⊢
  have e : ofP (scaleQ P (-1)) = ⟨(mulQ (-1) P.ps).map ofA, ofQ (-P.c)⟩ := by
    unfold scaleQ ofP
    rw [if_neg (by decide), show P.c * -1 = -P.c by grind]
  rw [e]
  exact sumF_neg hl (SmP.mono hP.sp (by decide)) (Sm_mono hP.sc (by decide)) h
/-- Numbers of one sign. -/
def SameSg (k : Int) (a b : Rat) : Prop := (a = 0 ↔ b = 0) ∧ (k ≠ 3 → (a < 0 ↔ b < 0))
theorem norm_sign (l : Int → Rat) (k : Int) {P : Qo} {m : Nat} (h : P.Is m) : SameSg k (valQ l (normQ k P)) (valQ l P) := by
  unfold normQ
  split
  · rename_i hp
    unfold valQ
    rw [hp]
    show SameSg k (sgnQ P.c) P.c
    unfold sgnQ
    refine ⟨?_, fun _ => ?_⟩
    · split
      · rename_i h1; constructor
        · intro e; exact absurd e (by decide)
        · intro e; rw [e] at h1; exact absurd h1 (lt_irr _)
      · split
        · rename_i h2; simp [h2]
        · rename_i h2; constructor
          · intro e; exact absurd e (by decide)
          · intro e; exact absurd e h2
    · split
      · rename_i h1; exact ⟨fun _ => h1, fun _ => by decide⟩
      · rename_i h1
        split
        · constructor
          · intro e; exact absurd e (lt_irr _)
          · intro e; exact absurd e h1
        · constructor
          · intro e; exact absurd e (by decide)
          · intro e; exact absurd e h1
  · rename_i x r hx
    have h0 : x.1 ≠ 0 := by have := h.ok; rw [hx] at this; exact this.2.1
    have hz0 := szQ_ne (k := k) h0
    have hz1 : 1 / szQ k x.1 ≠ 0 := by grind
    rw [val_scale l hz1]
    refine ⟨⟨fun e => by rcases Rat.mul_eq_zero.1 e with e | e; exact e; contradiction, fun e => by rw [e, Rat.zero_mul]⟩, fun hk => ?_⟩
    have hp : 0 < szQ k x.1 := by
      unfold szQ
      split
      · rename_i h; grind
      · rename_i h
        rcases rat_tri x.1 0 with h1 | h1 | h1
        · exact absurd ⟨h1, hk⟩ h
        · contradiction
        · exact h1
    have hq : 0 < 1 / szQ k x.1 := by
      rw [Rat.div_def, Rat.one_mul]
      exact Rat.inv_pos.2 hp
    constructor
    · intro h1
      rcases rat_tri (valQ l P) 0 with h2 | h2 | h2
      · exact h2
      · rw [h2, Rat.zero_mul] at h1; exact absurd h1 (lt_irr _)
      · exact absurd h1 (lt_asymm (Rat.mul_pos h2 hq))
    · intro h1
      have := Rat.mul_pos (show 0 < -valQ l P by grind) hq
      grind
end Go.Proofs.YtepfpgnjpkcgmaaGreat

/-
  law9: AtomOpposites answers true.
-/
namespace Go.Proofs.YtepfpgnjpkcgmaaGreat
open Go Go.Abs Go.Limbs
variable {base : Prot}
set_option maxRecDepth 20000
attribute [local irreducible] vc
attribute [local simp] pureS touchV freezeL fuel shiftV u64 au
/-! ### What holds of what is made -/
theorem look_q : ∀ {l : List Bd}, (∀ b ∈ l, b.x.ok = true) → ∃ f : Int → Rat, (∀ i, Sm 64 (f i)) ∧ lookB l = lkQ f
  | [], _ => ⟨fun _ => 0, fun _ => (by show Sm 64 (0 : Rat); decide +kernel), rfl⟩
  | b :: r, h => by
    obtain ⟨f, hf, e⟩ := look_q (l := r) fun x hx => h x (by simp [hx])
    obtain ⟨q, hq, hb⟩ := Fr.ok_of (h b (by simp))
    refine ⟨fun i => if b.id = i then q else f i, fun i => ?_, ?_⟩
    · simp only; split
      · exact hq
      · exact hf i
    · funext i
      show (if b.id = i then b.x else lookB r i) = ofQ (if b.id = i then q else f i)
      rw [e, hb]
      split <;> rfl
theorem so_same {k : Int} {a b : Rat} (h : SameSg k a b) (hk : isSum k = true) : soF k (cmpQ a 0) = soF k (cmpQ b 0) := by
  by_cases h3 : k = 3
  · subst h3
    show decide (cmpQ a 0 = 0) = decide (cmpQ b 0 = 0)
    rw [decide_eq_decide, cmpQ_zero_iff, cmpQ_zero_iff]
    exact h.1
  · have h2 := h.2 h3
    have : cmpQ a 0 = cmpQ b 0 := by
      rcases rat_tri b 0 with e | e | e
      · rw [cmpQ_lt e, cmpQ_lt (h2.2 e)]
      · rw [e, h.1.2 e]
      · rcases rat_tri a 0 with e' | e' | e'
        · exact absurd (h2.1 e') (lt_asymm e)
        · rw [h.1.1 e'] at e; exact absurd e (lt_irr _)
        · rw [cmpQ_gt e, cmpQ_gt e']
    rw [this]
theorem so_neg {k : Int} (a : Rat) (hk : k = 1 ∨ k = 2) : soF (3 - k) (cmpQ (-a) 0) = !soF k (cmpQ a 0) := by
  rcases rat_tri a 0 with h | h | h
  · rw [cmpQ_lt h, cmpQ_gt (by grind)]; rcases hk with rfl | rfl <;> decide
  · subst h; rw [show cmpQ (-0) 0 = 0 from by decide +kernel, show cmpQ 0 0 = 0 from by decide +kernel]; rcases hk with rfl | rfl <;> decide
  · rw [cmpQ_gt h, cmpQ_lt (by grind)]; rcases hk with rfl | rfl <;> decide
theorem holds_atQ {k : Int} {N : Qo} {f : Int → Rat} (hf : ∀ i, Sm 64 (f i)) (hk : isSum k = true) (hc : Can k N) (hN : N.Is 64) (h : (valuePo (lkQ f) (ofP N)).2 = 0) :
    holdsAt (lkQ f) (atQ k N) = (soF k (cmpQ (valQ f N) 0), 0) := by
  obtain ⟨e, m⟩ := value_of hf hN h
  unfold holdsAt
  rw [can_ok hk hc hN, show isSum (atQ k N).k = true from hk, show (atQ k N).p = ofP N from rfl, e, signF_num m]
  rfl
theorem holds_err {k : Int} {N : Qo} {f : Int → Rat} (hk : isSum k = true) (hc : Can k N) (hN : N.Is 64) : (holdsAt (lkQ f) (atQ k N)).2 = (valuePo (lkQ f) (ofP N)).2 := by
  unfold holdsAt
  rw [can_ok hk hc hN, show isSum (atQ k N).k = true from hk]
  rfl
def Tao : Tab := (((((((((((Tab.none.with 13 (pureS (g1 fewPoP))).with 31 (pureS (g1 okPo))).with 36 (pureS sFewB9)).with 37 (pureS sAwk)).with 50 (pureS (f1 boolF))).with 52 (pureS sRound4)).with 54 (pureS (ki makeP))).with 42 (pureS (sHolds L9))).with 44 (pureS sBinds9)).with 27 (pureS sRVal)).with 51 (pureS (f1 signP))).with 38 (pureS (h1s notP))
theorem Tao_ok : TabOk Tryz.prog base Tao := Tab.with_ok (Tab.with_ok (Tab.with_ok (Tab.with_ok (Tab.with_ok (Tab.with_ok (Tab.with_ok (Tab.with_ok (Tab.with_ok (Tab.with_ok (Tab.with_ok (Tab.with_ok Tab.none_ok apoly_ok) rpvalid_ok) fewB9_ok) awake9_ok) rvalidR_ok) round_ok) amake_ok) holds9_ok) binds9_ok) rvalue_ok) rSign_ok) anot_ok
theorem Tao_mu (f : FuncId) (a : List AVal) (H : Heap) : Tao.mu f a H = none := (rfl)
theorem Tao_fns : Tao.fn 13 = (pureS (g1 fewPoP)) ∧ Tao.fn 31 = (pureS (g1 okPo)) ∧ Tao.fn 36 = (pureS sFewB9) ∧ Tao.fn 37 = (pureS sAwk) ∧ Tao.fn 50 = (pureS (f1 boolF)) ∧ Tao.fn 52 = (pureS sRound4) ∧ Tao.fn 54 = (pureS (ki makeP)) ∧ Tao.fn 42 = (pureS (sHolds L9)) ∧ Tao.fn 44 = (pureS sBinds9) ∧ Tao.fn 27 = (pureS sRVal) ∧ Tao.fn 51 = (pureS (f1 signP)) ∧ Tao.fn 38 = (pureS (h1s notP)) := ⟨rfl, rfl, rfl, rfl, rfl, rfl, rfl, rfl, rfl, rfl, rfl, rfl⟩
def sLaw9o : List PVal → Option PVal
  | [a, .int .i64 _, .lst vs] => match decPo a, decBs vs with | some _, some _ => some (.bool true) | _, _ => none
  | _ => none
theorem sLaw9o_at {p : Po} {i : Int} {l : List Bd} (wp : p.wf) (wl : wfB l) : sLaw9o [p.enc, .int .i64 i, .lst (l.map Bd.enc)] = some (.bool true) := by
  simp only [sLaw9o, decPo_enc wp, decBs_enc wl]
theorem sLaw9o_some {args : List PVal} {z : PVal} (h : sLaw9o args = some z) : ∃ (p : Po) (i : Int) (l : List Bd), p.wf ∧ wfB l ∧ args = [p.enc, .int .i64 i, .lst (l.map Bd.enc)] ∧ z = .bool true := by
  unfold sLaw9o at h
  split at h
  · split at h
    · rename_i p l hp hl
      cases h
      obtain ⟨rfl, wp⟩ := decPo_some hp
      obtain ⟨rfl, wl⟩ := decBs_some hl
      exact ⟨p, _, l, wp, wl, rfl, rfl⟩
    · cases h
  · cases h
set_option maxHeartbeats 4000000 in
theorem atomOpp_ok : FnOk Tryz.prog base 6 (pureS sLaw9o) := by
  refine pure_of_vc hmix Tao_ok globNone low6 fun args z hs hf => ?_
  obtain ⟨p, i, l, wp, wl, rfl, rfl⟩ := sLaw9o_some hs
  refine ⟨by simp [lf6], ?_⟩
  have aw := sAwk_nil
  have c1 : g1 fewPoP [p.enc] = some (.bool (fewPo p)) := g1_at wp
  have c2 : g1 okPo [p.enc] = some (.bool p.ok) := g1_at wp
  have c3 := sFewB9_at wl
  cases h1 : fewPo p with
  | false => rw [h1] at c1; simp only [Po.enc, Fr.enc] at c1 ⊢; simp [lf6, c1, aw, fillS, Tao_mu, Tao_fns]
  | true =>
  rw [h1] at c1
  cases h2 : p.ok with
  | false => rw [h2] at c2; simp only [Po.enc, Fr.enc] at c1 c2 ⊢; simp [lf6, c1, c2, aw, fillS, Tao_mu, Tao_fns]
  | true =>
  rw [h2] at c2
  cases h3 : fewB l with
  | false => rw [h3] at c3; simp only [Po.enc, Fr.enc] at c1 c2 c3 ⊢; simp [lf6, c1, c2, c3, aw, fillS, Tao_mu, Tao_fns]
  | true =>
  rw [h3] at c3
  have hlen : l.length ≤ 12 := fewB_len h3
  have hl6 : l.length ≤ 1000000 := by omega
  obtain ⟨P, hP64, rfl⟩ := po_of h2
  obtain ⟨hP, hl⟩ := few_is hP64 h1
  have c1e := c1
  have c2e := c2
  obtain ⟨X, hX⟩ : ∃ x, x = ofP P := ⟨_, rfl⟩
  simp only [← hX, Po.enc, Fr.enc] at c1 c2 ⊢
  simp [lf6, c1, c2, c3, fillS, Tao_mu, Tao_fns]
  simp only [lf6_B0, vc_block]
  refine loop_ind (fun fr H => ∃ j : Nat, H = [⟨4, 0, false, [.p X.enc], 27⟩, ⟨1, 0, false, [.p (.lst (l.map Bd.enc))], 56⟩] ∧ j ≤ l.length ∧ (∀ b ∈ l.take j, b.x.ok = true) ∧ fr 1 = .p (.int .i64 i) ∧ fr 3 = .optr 0 0 0 0 ∧ fr 5 = .optr 1 0 0 0 ∧ fr 7 = .p (.int .i64 j)) (fun fr _ => l.length - ivar (fr 7))
    ⟨0, by simp [Po.enc, Fr.enc], by omega, by simp, by simp, by simp, by simp, by simp⟩ ?_
  rintro fr H ⟨j, rfl, hj, hall, f1', f3, f5, f7⟩
  by_cases hlt : j < l.length
  · obtain ⟨b, hb⟩ : ∃ b, l[j]? = some b := ⟨_, List.getElem?_eq_getElem hlt⟩
    have hbe := getE hb
    have hw := wrap_succ (i := j) (by omega)
    have htk := take_succ_get hb
    have cv : f1 boolF [b.x.enc] = some (.bool b.x.ok) := f1_at (wl b (List.mem_of_getElem? hb))
    simp only [Po.enc, Fr.enc] at cv ⊢
    cases hok : b.x.ok with
    | false =>
      rw [hok] at cv
      simp [f1', f3, f5, f7, hlt, hbe, Bd.enc, cv, aw, Tao_mu, Tao_fns]
    | true =>
      rw [hok] at cv
      simp [f1', f3, f5, f7, hlt, hbe, Bd.enc, cv, hw, ivar, Tao_mu, Tao_fns]
      refine ⟨⟨j + 1, by omega, ?_, by omega⟩, by omega⟩
      rw [htk]
      intro x hx
      rcases List.mem_append.1 hx with hx | hx
      · exact hall x hx
      · rw [List.mem_singleton] at hx; subst hx; exact hok
  · have hjl : j = l.length := by omega
    subst hjl
    rw [List.take_length] at hall
    obtain ⟨f, hf', hlk⟩ := look_q hall
    have c4 := sBinds9_at wl hl6
    have hr : sRound4 [.int .i64 i, .int .i64 4] = some (.int .i64 (roundZ i 4)) := rfl
    have hr4 := round4 i
    obtain ⟨r, hr'⟩ : ∃ r, r = roundZ i 4 := ⟨_, rfl⟩
    rw [← hr'] at hr hr4
    clear hr'
    have w0 : IntKind.i64.wrap 0 = 0 := rfl
    have w2 : IntKind.i64.wrap 2 = 2 := rfl
    have w3 : IntKind.i64.wrap 3 = 3 := rfl
    have w4 : IntKind.i64.wrap 4 = 4 := rfl
    have w1 : IntKind.i64.wrap 1 = 1 := rfl
    rcases hr4 with rfl | rfl | rfl | rfl
    · have cN := norm_can (k := 1) hP
      have iN := norm_is (k := 1) hP (by decide)
      have lN := Nat.le_trans (len_norm 1 P) hl
      have m1 : ki makeP [.int .i64 1, (ofP P).enc] = some (.tup [(At.mk 1 (ofP (normQ 1 P)) 0 0).enc, .bool false, .int .i64 0]) := by rw [ki_at (wf_ofP _) (few_ofP hl)]; unfold makeP tripAt; rw [make_of hP (by decide) rfl]; rfl
      have g1 := sHolds_at (x := atQ 1 (normQ 1 P)) (c := .clo 55 [.cptr [.lst (l.map Bd.enc)]]) (wf_ofP _) (few_ofP lN) (L9_at2 wl hl6)
      have g2 := sRVal_at (p := ofP P) (wf_ofP _) (few_ofP hl) wl
      have er := holds_err (f := f) (k := 1) rfl cN (iN.mono (by decide))
      rw [hlk] at g1 g2
      by_cases e2 : (valuePo (lkQ f) (ofP (normQ 1 P))).2 = 0
      · by_cases e3 : (valuePo (lkQ f) (ofP P)).2 = 0
        · obtain ⟨ev, mv⟩ := value_of hf' hP64 e3
          rw [holds_atQ hf' rfl cN (iN.mono (by decide)) e2, so_same (norm_sign f 1 hP) rfl] at g1
          rw [ev] at g2
          have sg := f1_sign (wf_ofQ (valQ f P))
          rw [signF_num mv] at sg
          have G := not_f (k := 1) (.inl rfl) cN iN (by decide) lN
          have n1 := G.n1
          have iM : (scaleQ (normQ 1 P) (-1)).Is 18 := scaleQ_is iN smm1
          have g3 := sHolds_at (x := atQ 2 (scaleQ (normQ 1 P) (-1))) (c := .clo 55 [.cptr [.lst (l.map Bd.enc)]]) (wf_ofP _) (few_ofP (Nat.le_trans (len_scale _ _) lN)) (L9_at2 wl hl6)
          have sn := so_neg (k := 1) (valQ f (normQ 1 P)) (.inl rfl)
          rw [so_same (norm_sign f 1 hP) rfl] at sn
          have vs : valQ f (scaleQ (normQ 1 P) (-1)) = -valQ f (normQ 1 P) := by rw [val_scale f (by decide)]; grind
          rw [hlk, holds_atQ hf' rfl (can_neg (by decide) cN) (iM.mono (by decide)) (value_neg hf' (iN.mono (by decide)) e2), vs, show soF 2 (cmpQ (-valQ f (normQ 1 P)) 0) = _ from sn] at g3
          simp only [show (3 : Int) - 1 = 2 from rfl] at n1
          have hcase := cmpQ_case (valQ f P) 0
          obtain ⟨s, hs'⟩ : ∃ s, s = cmpQ (valQ f P) 0 := ⟨_, rfl⟩
          obtain ⟨y, hy⟩ : ∃ y, y = ofQ (valQ f P) := ⟨_, rfl⟩
          obtain ⟨A, hA⟩ : ∃ x, x = ofP (normQ 1 P) := ⟨_, rfl⟩
          obtain ⟨M, hM⟩ : ∃ x, x = ofP (scaleQ (normQ 1 P) (-1)) := ⟨_, rfl⟩
          simp only [atQ, holdsPr, pairF, ← hs', ← hy, ← hA, ← hX, ← hM] at m1 g1 g2 sg n1 g3 hcase
          simp only [At.enc, Po.enc, Fr.enc, zAt, zPo, zF, List.map_nil] at m1 g1 g2 sg n1 g3 ⊢
          rcases hcase with hc | hc | hc
          all_goals
            rw [hc] at g1 sg g3
            simp only [show soF 1 (-1) = true from rfl, show soF 1 0 = true from rfl, show soF 1 1 = false from rfl] at g1 g3
            simp [m1, g1, f1', f3, f5, f7, hr, w0, w1, w2, w3, w4, aw, mkClo, fillS, freeze1, Tao_mu, Tao_fns]
            rw [vc_regionW]
            refine ⟨[], ?_⟩
            simp [c4, g1, g2, sg, n1, g3, f1', f3, f5, f7, hr, w0, w1, w2, w3, w4, aw, mkClo, fillS, freeze1, Tao_mu, Tao_fns]
            all_goals exact keepT rfl
        · have eb : (((valuePo (lkQ f) (ofP P)).2 : Int) != 0) = true := by simp; omega
          have g1e : (holdsAt (lkQ f) (atQ 1 (normQ 1 P))).2 = 0 := by rw [er, e2]
          obtain ⟨W, hW⟩ : ∃ w, w = holdsAt (lkQ f) (atQ 1 (normQ 1 P)) := ⟨_, rfl⟩
          obtain ⟨v, hv⟩ : ∃ v, v = valuePo (lkQ f) (ofP P) := ⟨_, rfl⟩
          obtain ⟨A, hA⟩ : ∃ x, x = ofP (normQ 1 P) := ⟨_, rfl⟩
          rw [← hW] at g1 g1e
          rw [← hv] at g2 eb e3
          simp only [atQ, holdsPr, pairF, g1e, ← hA, ← hX] at m1 g1 g2
          simp only [At.enc, Po.enc, Fr.enc] at m1 g1 g2 ⊢
          simp [m1, g1, f1', f3, f5, f7, hr, w0, w1, w2, w3, w4, aw, mkClo, fillS, freeze1, Tao_mu, Tao_fns]
          rw [vc_regionW]
          refine ⟨[], ?_⟩
          simp [c4, g1, g2, eb, e3, f1', f3, f5, f7, hr, w0, w1, w2, w3, w4, aw, mkClo, fillS, freeze1, Tao_mu, Tao_fns]
          all_goals exact keepT rfl
      · have eb : (((holdsAt (lkQ f) (atQ 1 (normQ 1 P))).2 : Int) != 0) = true := by rw [er]; simp; omega
        have e2' : ¬ (holdsAt (lkQ f) (atQ 1 (normQ 1 P))).2 = 0 := by rw [er]; exact e2
        obtain ⟨W, hW⟩ : ∃ w, w = holdsAt (lkQ f) (atQ 1 (normQ 1 P)) := ⟨_, rfl⟩
        obtain ⟨v, hv⟩ : ∃ v, v = valuePo (lkQ f) (ofP P) := ⟨_, rfl⟩
        obtain ⟨A, hA⟩ : ∃ x, x = ofP (normQ 1 P) := ⟨_, rfl⟩
        rw [← hW] at g1 eb e2'
        rw [← hv] at g2
        simp only [atQ, holdsPr, pairF, ← hA, ← hX] at m1 g1 g2
        simp only [At.enc, Po.enc, Fr.enc] at m1 g1 g2 ⊢
        simp [m1, g1, f1', f3, f5, f7, hr, w0, w1, w2, w3, w4, aw, mkClo, fillS, freeze1, Tao_mu, Tao_fns]
        rw [vc_regionW]
        refine ⟨[], ?_⟩
        simp [c4, g1, g2, eb, e2', f1', f3, f5, f7, hr, w0, w1, w2, w3, w4, aw, mkClo, fillS, freeze1, Tao_mu, Tao_fns]
        all_goals exact keepT rfl
    · have cN := norm_can (k := 2) hP
      have iN := norm_is (k := 2) hP (by decide)
      have lN := Nat.le_trans (len_norm 2 P) hl
      have m1 : ki makeP [.int .i64 2, (ofP P).enc] = some (.tup [(At.mk 2 (ofP (normQ 2 P)) 0 0).enc, .bool false, .int .i64 0]) := by rw [ki_at (wf_ofP _) (few_ofP hl)]; unfold makeP tripAt; rw [make_of hP (by decide) rfl]; rfl
      have g1 := sHolds_at (x := atQ 2 (normQ 2 P)) (c := .clo 55 [.cptr [.lst (l.map Bd.enc)]]) (wf_ofP _) (few_ofP lN) (L9_at2 wl hl6)
      have g2 := sRVal_at (p := ofP P) (wf_ofP _) (few_ofP hl) wl
      have er := holds_err (f := f) (k := 2) rfl cN (iN.mono (by decide))
      rw [hlk] at g1 g2
      by_cases e2 : (valuePo (lkQ f) (ofP (normQ 2 P))).2 = 0
      · by_cases e3 : (valuePo (lkQ f) (ofP P)).2 = 0
        · obtain ⟨ev, mv⟩ := value_of hf' hP64 e3
          rw [holds_atQ hf' rfl cN (iN.mono (by decide)) e2, so_same (norm_sign f 2 hP) rfl] at g1
          rw [ev] at g2
          have sg := f1_sign (wf_ofQ (valQ f P))
          rw [signF_num mv] at sg
          have G := not_f (k := 2) (.inr rfl) cN iN (by decide) lN
          have n1 := G.n1
          have iM : (scaleQ (normQ 2 P) (-1)).Is 18 := scaleQ_is iN smm1
          have g3 := sHolds_at (x := atQ 1 (scaleQ (normQ 2 P) (-1))) (c := .clo 55 [.cptr [.lst (l.map Bd.enc)]]) (wf_ofP _) (few_ofP (Nat.le_trans (len_scale _ _) lN)) (L9_at2 wl hl6)
          have sn := so_neg (k := 2) (valQ f (normQ 2 P)) (.inr rfl)
          rw [so_same (norm_sign f 2 hP) rfl] at sn
          have vs : valQ f (scaleQ (normQ 2 P) (-1)) = -valQ f (normQ 2 P) := by rw [val_scale f (by decide)]; grind
          rw [hlk, holds_atQ hf' rfl (can_neg (by decide) cN) (iM.mono (by decide)) (value_neg hf' (iN.mono (by decide)) e2), vs, show soF 1 (cmpQ (-valQ f (normQ 2 P)) 0) = _ from sn] at g3
          simp only [show (3 : Int) - 2 = 1 from rfl] at n1
          have hcase := cmpQ_case (valQ f P) 0
          obtain ⟨s, hs'⟩ : ∃ s, s = cmpQ (valQ f P) 0 := ⟨_, rfl⟩
          obtain ⟨y, hy⟩ : ∃ y, y = ofQ (valQ f P) := ⟨_, rfl⟩
          obtain ⟨A, hA⟩ : ∃ x, x = ofP (normQ 2 P) := ⟨_, rfl⟩
          obtain ⟨M, hM⟩ : ∃ x, x = ofP (scaleQ (normQ 2 P) (-1)) := ⟨_, rfl⟩
          simp only [atQ, holdsPr, pairF, ← hs', ← hy, ← hA, ← hX, ← hM] at m1 g1 g2 sg n1 g3 hcase
          simp only [At.enc, Po.enc, Fr.enc, zAt, zPo, zF, List.map_nil] at m1 g1 g2 sg n1 g3 ⊢
          rcases hcase with hc | hc | hc
          all_goals
            rw [hc] at g1 sg g3
            simp only [show soF 2 (-1) = true from rfl, show soF 2 0 = false from rfl, show soF 2 1 = false from rfl] at g1 g3
            simp [m1, g1, f1', f3, f5, f7, hr, w0, w1, w2, w3, w4, aw, mkClo, fillS, freeze1, Tao_mu, Tao_fns]
            rw [vc_regionW]
            refine ⟨[], ?_⟩
            simp [c4, g1, g2, sg, n1, g3, f1', f3, f5, f7, hr, w0, w1, w2, w3, w4, aw, mkClo, fillS, freeze1, Tao_mu, Tao_fns]
            all_goals exact keepT rfl
        · have eb : (((valuePo (lkQ f) (ofP P)).2 : Int) != 0) = true := by simp; omega
          have g1e : (holdsAt (lkQ f) (atQ 2 (normQ 2 P))).2 = 0 := by rw [er, e2]
          obtain ⟨W, hW⟩ : ∃ w, w = holdsAt (lkQ f) (atQ 2 (normQ 2 P)) := ⟨_, rfl⟩
          obtain ⟨v, hv⟩ : ∃ v, v = valuePo (lkQ f) (ofP P) := ⟨_, rfl⟩
          obtain ⟨A, hA⟩ : ∃ x, x = ofP (normQ 2 P) := ⟨_, rfl⟩
          rw [← hW] at g1 g1e
          rw [← hv] at g2 eb e3
          simp only [atQ, holdsPr, pairF, g1e, ← hA, ← hX] at m1 g1 g2
          simp only [At.enc, Po.enc, Fr.enc] at m1 g1 g2 ⊢
          simp [m1, g1, f1', f3, f5, f7, hr, w0, w1, w2, w3, w4, aw, mkClo, fillS, freeze1, Tao_mu, Tao_fns]
          rw [vc_regionW]
          refine ⟨[], ?_⟩
          simp [c4, g1, g2, eb, e3, f1', f3, f5, f7, hr, w0, w1, w2, w3, w4, aw, mkClo, fillS, freeze1, Tao_mu, Tao_fns]
          all_goals exact keepT rfl
      · have eb : (((holdsAt (lkQ f) (atQ 2 (normQ 2 P))).2 : Int) != 0) = true := by rw [er]; simp; omega
        have e2' : ¬ (holdsAt (lkQ f) (atQ 2 (normQ 2 P))).2 = 0 := by rw [er]; exact e2
        obtain ⟨W, hW⟩ : ∃ w, w = holdsAt (lkQ f) (atQ 2 (normQ 2 P)) := ⟨_, rfl⟩
        obtain ⟨v, hv⟩ : ∃ v, v = valuePo (lkQ f) (ofP P) := ⟨_, rfl⟩
        obtain ⟨A, hA⟩ : ∃ x, x = ofP (normQ 2 P) := ⟨_, rfl⟩
        rw [← hW] at g1 eb e2'
        rw [← hv] at g2
        simp only [atQ, holdsPr, pairF, ← hA, ← hX] at m1 g1 g2
        simp only [At.enc, Po.enc, Fr.enc] at m1 g1 g2 ⊢
        simp [m1, g1, f1', f3, f5, f7, hr, w0, w1, w2, w3, w4, aw, mkClo, fillS, freeze1, Tao_mu, Tao_fns]
        rw [vc_regionW]
        refine ⟨[], ?_⟩
        simp [c4, g1, g2, eb, e2', f1', f3, f5, f7, hr, w0, w1, w2, w3, w4, aw, mkClo, fillS, freeze1, Tao_mu, Tao_fns]
        all_goals exact keepT rfl
    · have cN := norm_can (k := 3) hP
      have iN := norm_is (k := 3) hP (by decide)
      have lN := Nat.le_trans (len_norm 3 P) hl
      have m1 : ki makeP [.int .i64 3, (ofP P).enc] = some (.tup [(At.mk 3 (ofP (normQ 3 P)) 0 0).enc, .bool false, .int .i64 0]) := by rw [ki_at (wf_ofP _) (few_ofP hl)]; unfold makeP tripAt; rw [make_of hP (by decide) rfl]; rfl
      have g1 := sHolds_at (x := atQ 3 (normQ 3 P)) (c := .clo 55 [.cptr [.lst (l.map Bd.enc)]]) (wf_ofP _) (few_ofP lN) (L9_at2 wl hl6)
      have g2 := sRVal_at (p := ofP P) (wf_ofP _) (few_ofP hl) wl
      have er := holds_err (f := f) (k := 3) rfl cN (iN.mono (by decide))
      rw [hlk] at g1 g2
      by_cases e2 : (valuePo (lkQ f) (ofP (normQ 3 P))).2 = 0
      · by_cases e3 : (valuePo (lkQ f) (ofP P)).2 = 0
        · obtain ⟨ev, mv⟩ := value_of hf' hP64 e3
          rw [holds_atQ hf' rfl cN (iN.mono (by decide)) e2, so_same (norm_sign f 3 hP) rfl] at g1
          rw [ev] at g2
          have sg := f1_sign (wf_ofQ (valQ f P))
          rw [signF_num mv] at sg
          have n1 : h1s notP [(At.mk 3 (ofP (normQ 3 P)) 0 0).enc] = some (.tup [zAt.enc, .bool false]) := by rw [h1s_at (wf_ofP _) (few_ofP lN)]; unfold notP; rw [show notAt ⟨3, ofP (normQ 3 P), 0, 0⟩ = (zAt, false) from not_three _]
          have hcase := cmpQ_case (valQ f P) 0
          obtain ⟨s, hs'⟩ : ∃ s, s = cmpQ (valQ f P) 0 := ⟨_, rfl⟩
          obtain ⟨y, hy⟩ : ∃ y, y = ofQ (valQ f P) := ⟨_, rfl⟩
          obtain ⟨A, hA⟩ : ∃ x, x = ofP (normQ 3 P) := ⟨_, rfl⟩
          simp only [atQ, holdsPr, pairF, ← hs', ← hy, ← hA, ← hX] at m1 g1 g2 sg n1 hcase
          simp only [At.enc, Po.enc, Fr.enc, zAt, zPo, zF, List.map_nil] at m1 g1 g2 sg n1 ⊢
          rcases hcase with hc | hc | hc
          all_goals
            rw [hc] at g1 sg
            simp only [show soF 3 (-1) = false from rfl, show soF 3 0 = true from rfl, show soF 3 1 = false from rfl] at g1
            simp [m1, g1, f1', f3, f5, f7, hr, w0, w1, w2, w3, w4, aw, mkClo, fillS, freeze1, Tao_mu, Tao_fns]
            rw [vc_regionW]
            refine ⟨[], ?_⟩
            simp [c4, g1, g2, sg, n1, f1', f3, f5, f7, hr, w0, w1, w2, w3, w4, aw, mkClo, fillS, freeze1, Tao_mu, Tao_fns]
            all_goals exact keepT rfl
        · have eb : (((valuePo (lkQ f) (ofP P)).2 : Int) != 0) = true := by simp; omega
          have g1e : (holdsAt (lkQ f) (atQ 3 (normQ 3 P))).2 = 0 := by rw [er, e2]
          obtain ⟨W, hW⟩ : ∃ w, w = holdsAt (lkQ f) (atQ 3 (normQ 3 P)) := ⟨_, rfl⟩
          obtain ⟨v, hv⟩ : ∃ v, v = valuePo (lkQ f) (ofP P) := ⟨_, rfl⟩
          obtain ⟨A, hA⟩ : ∃ x, x = ofP (normQ 3 P) := ⟨_, rfl⟩
          rw [← hW] at g1 g1e
          rw [← hv] at g2 eb e3
          simp only [atQ, holdsPr, pairF, g1e, ← hA, ← hX] at m1 g1 g2
          simp only [At.enc, Po.enc, Fr.enc] at m1 g1 g2 ⊢
          simp [m1, g1, f1', f3, f5, f7, hr, w0, w1, w2, w3, w4, aw, mkClo, fillS, freeze1, Tao_mu, Tao_fns]
          rw [vc_regionW]
          refine ⟨[], ?_⟩
          simp [c4, g1, g2, eb, e3, f1', f3, f5, f7, hr, w0, w1, w2, w3, w4, aw, mkClo, fillS, freeze1, Tao_mu, Tao_fns]
          all_goals exact keepT rfl
      · have eb : (((holdsAt (lkQ f) (atQ 3 (normQ 3 P))).2 : Int) != 0) = true := by rw [er]; simp; omega
        have e2' : ¬ (holdsAt (lkQ f) (atQ 3 (normQ 3 P))).2 = 0 := by rw [er]; exact e2
        obtain ⟨W, hW⟩ : ∃ w, w = holdsAt (lkQ f) (atQ 3 (normQ 3 P)) := ⟨_, rfl⟩
        obtain ⟨v, hv⟩ : ∃ v, v = valuePo (lkQ f) (ofP P) := ⟨_, rfl⟩
        obtain ⟨A, hA⟩ : ∃ x, x = ofP (normQ 3 P) := ⟨_, rfl⟩
        rw [← hW] at g1 eb e2'
        rw [← hv] at g2
        simp only [atQ, holdsPr, pairF, ← hA, ← hX] at m1 g1 g2
        simp only [At.enc, Po.enc, Fr.enc] at m1 g1 g2 ⊢
        simp [m1, g1, f1', f3, f5, f7, hr, w0, w1, w2, w3, w4, aw, mkClo, fillS, freeze1, Tao_mu, Tao_fns]
        rw [vc_regionW]
        refine ⟨[], ?_⟩
        simp [c4, g1, g2, eb, e2', f1', f3, f5, f7, hr, w0, w1, w2, w3, w4, aw, mkClo, fillS, freeze1, Tao_mu, Tao_fns]
        all_goals exact keepT rfl
    · have cN := norm_can (k := 3) hP
      have iN := norm_is (k := 3) hP (by decide)
      have lN := Nat.le_trans (len_norm 3 P) hl
      have m1 : ki makeP [.int .i64 4, (ofP P).enc] = some (.tup [(At.mk 3 (ofP (normQ 3 P)) 0 0).enc, .bool true, .int .i64 0]) := by rw [ki_at (wf_ofP _) (few_ofP hl)]; unfold makeP tripAt; rw [make_of hP (by decide) rfl]; rfl
      have g1 := sHolds_at (x := atQ 3 (normQ 3 P)) (c := .clo 55 [.cptr [.lst (l.map Bd.enc)]]) (wf_ofP _) (few_ofP lN) (L9_at2 wl hl6)
      have g2 := sRVal_at (p := ofP P) (wf_ofP _) (few_ofP hl) wl
      have er := holds_err (f := f) (k := 3) rfl cN (iN.mono (by decide))
      rw [hlk] at g1 g2
      by_cases e2 : (valuePo (lkQ f) (ofP (normQ 3 P))).2 = 0
      · by_cases e3 : (valuePo (lkQ f) (ofP P)).2 = 0
        · obtain ⟨ev, mv⟩ := value_of hf' hP64 e3
          rw [holds_atQ hf' rfl cN (iN.mono (by decide)) e2, so_same (norm_sign f 3 hP) rfl] at g1
          rw [ev] at g2
          have sg := f1_sign (wf_ofQ (valQ f P))
          rw [signF_num mv] at sg
          have n1 : h1s notP [(At.mk 3 (ofP (normQ 3 P)) 0 0).enc] = some (.tup [zAt.enc, .bool false]) := by rw [h1s_at (wf_ofP _) (few_ofP lN)]; unfold notP; rw [show notAt ⟨3, ofP (normQ 3 P), 0, 0⟩ = (zAt, false) from not_three _]
          have hcase := cmpQ_case (valQ f P) 0
          obtain ⟨s, hs'⟩ : ∃ s, s = cmpQ (valQ f P) 0 := ⟨_, rfl⟩
          obtain ⟨y, hy⟩ : ∃ y, y = ofQ (valQ f P) := ⟨_, rfl⟩
          obtain ⟨A, hA⟩ : ∃ x, x = ofP (normQ 3 P) := ⟨_, rfl⟩
          simp only [atQ, holdsPr, pairF, ← hs', ← hy, ← hA, ← hX] at m1 g1 g2 sg n1 hcase
          simp only [At.enc, Po.enc, Fr.enc, zAt, zPo, zF, List.map_nil] at m1 g1 g2 sg n1 ⊢
          rcases hcase with hc | hc | hc
          all_goals
            rw [hc] at g1 sg
            simp only [show soF 3 (-1) = false from rfl, show soF 3 0 = true from rfl, show soF 3 1 = false from rfl] at g1
            simp [m1, g1, f1', f3, f5, f7, hr, w0, w1, w2, w3, w4, aw, mkClo, fillS, freeze1, Tao_mu, Tao_fns]
            rw [vc_regionW]
            refine ⟨[], ?_⟩
            simp [c4, g1, g2, sg, n1, f1', f3, f5, f7, hr, w0, w1, w2, w3, w4, aw, mkClo, fillS, freeze1, Tao_mu, Tao_fns]
            all_goals exact keepT rfl
        · have eb : (((valuePo (lkQ f) (ofP P)).2 : Int) != 0) = true := by simp; omega
          have g1e : (holdsAt (lkQ f) (atQ 3 (normQ 3 P))).2 = 0 := by rw [er, e2]
          obtain ⟨W, hW⟩ : ∃ w, w = holdsAt (lkQ f) (atQ 3 (normQ 3 P)) := ⟨_, rfl⟩
          obtain ⟨v, hv⟩ : ∃ v, v = valuePo (lkQ f) (ofP P) := ⟨_, rfl⟩
          obtain ⟨A, hA⟩ : ∃ x, x = ofP (normQ 3 P) := ⟨_, rfl⟩
          rw [← hW] at g1 g1e
          rw [← hv] at g2 eb e3
          simp only [atQ, holdsPr, pairF, g1e, ← hA, ← hX] at m1 g1 g2
          simp only [At.enc, Po.enc, Fr.enc] at m1 g1 g2 ⊢
          simp [m1, g1, f1', f3, f5, f7, hr, w0, w1, w2, w3, w4, aw, mkClo, fillS, freeze1, Tao_mu, Tao_fns]
          rw [vc_regionW]
          refine ⟨[], ?_⟩
          simp [c4, g1, g2, eb, e3, f1', f3, f5, f7, hr, w0, w1, w2, w3, w4, aw, mkClo, fillS, freeze1, Tao_mu, Tao_fns]
          all_goals exact keepT rfl
      · have eb : (((holdsAt (lkQ f) (atQ 3 (normQ 3 P))).2 : Int) != 0) = true := by rw [er]; simp; omega
        have e2' : ¬ (holdsAt (lkQ f) (atQ 3 (normQ 3 P))).2 = 0 := by rw [er]; exact e2
        obtain ⟨W, hW⟩ : ∃ w, w = holdsAt (lkQ f) (atQ 3 (normQ 3 P)) := ⟨_, rfl⟩
        obtain ⟨v, hv⟩ : ∃ v, v = valuePo (lkQ f) (ofP P) := ⟨_, rfl⟩
        obtain ⟨A, hA⟩ : ∃ x, x = ofP (normQ 3 P) := ⟨_, rfl⟩
        rw [← hW] at g1 eb e2'
        rw [← hv] at g2
        simp only [atQ, holdsPr, pairF, ← hA, ← hX] at m1 g1 g2
        simp only [At.enc, Po.enc, Fr.enc] at m1 g1 g2 ⊢
        simp [m1, g1, f1', f3, f5, f7, hr, w0, w1, w2, w3, w4, aw, mkClo, fillS, freeze1, Tao_mu, Tao_fns]
        rw [vc_regionW]
        refine ⟨[], ?_⟩
        simp [c4, g1, g2, eb, e2', f1', f3, f5, f7, hr, w0, w1, w2, w3, w4, aw, mkClo, fillS, freeze1, Tao_mu, Tao_fns]
        all_goals exact keepT rfl
end Go.Proofs.YtepfpgnjpkcgmaaGreat
