/-
  What long division, greatest divisors and the functions called from outside compute. No conditions beyond the lemmas' own hypotheses.
-/
import Derived.Test.YtgbjjikaenlkmaaGreatNatD
set_option linter.unusedSimpArgs false
set_option linter.unnecessarySimpa false
set_option linter.unusedVariables false
set_option linter.constructorNameAsVariable false

/-
 nat: copies; what a long division does to a part of an own row.
-/
namespace Go.Proofs.YtgbjjikaenlkmaaGreat
open Go Go.Abs Go.Limbs
variable {base : Prot}
set_option maxRecDepth 20000
attribute [local irreducible] vc
attribute [local simp] pureS touchV freezeL fuel shiftV u64 au
theorem comp_au : AVal.p ∘ u64 = au := rfl
def sClone : List PVal → Option PVal
 | [.lst es] => match decU es with | some l => if l.length ≤ 1000000 then some (lstP l) else none | none => none
 | _ => none
theorem sClone_num {a : Nat} (ha : len a ≤ 100000) : sClone [.lst ((limbs a).map u64)] = some (.lst ((limbs a).map u64)) := by
 simp only [sClone, decU_map (wf_limbs a)]
 rw [if_pos (by have : (limbs a).length = len a := rfl; omega)]
 rfl
theorem clone_ok : FnOk Tryz.prog base 117 (pureS sClone) := by
 refine pure_of_vc hmix Tab.none_ok globNone low117 fun args z hs hf => ?_
 unfold sClone at hs
 split at hs
 case h_2 => cases hs
 rename_i es
 split at hs
 case h_2 => cases hs
 rename_i l hd
 split at hs
 case isFalse => cases hs
 rename_i hl
 cases hs
 obtain ⟨rfl, hw⟩ := decU_some hd
 refine ⟨by simp [lf117], ?_⟩
 have hcap := mul_capI l.length hl
 have hcapN := mul_cap l.length hl
 cases l with
 | nil => simp [lf117, lstP, fillS]
 | cons x r =>
  simp at hcap hcapN
  simp [lf117, lstP, fillS, comp_au, hcapN, mapO_au_take]
  exact List.take_of_length_le (by simp)
theorem part_mod (l : List Nat) (off n v : Nat) : part l off n v = part l off n (v % B ^ n) := by
 unfold part
 rw [fix_mod]
theorem join_take {p s q : List Nat} : (join p s q).take p.length = p := by
 unfold join; rw [List.append_assoc, List.take_left]
theorem join_drop {p s q : List Nat} : (join p s q).drop (p.length + s.length) = q := by
 unfold join; rw [← List.length_append, List.drop_left]
theorem join_mid {p s q : List Nat} : ((join p s q).drop p.length).take s.length = s := by
 unfold join; rw [List.append_assoc, List.drop_left, List.take_left]
theorem part_part {l : List Nat} {off n : Nat} (h : off + n ≤ l.length) (v w : Nat) : part (part l off n v) off n w = part l off n w := by
 have h1 : (l.take off).length = off := by simp; omega
 have e1 : (part l off n v).take off = l.take off := by
  have := join_take (p := l.take off) (s := fix n v) (q := l.drop (off + n))
  rw [h1] at this
  exact this
 have e2 : (part l off n v).drop (off + n) = l.drop (off + n) := by
  have := join_drop (p := l.take off) (s := fix n v) (q := l.drop (off + n))
  rw [h1, length_fix] at this
  exact this
 rw [part, e1, e2]; rfl
theorem seg_part {l : List Nat} {off n : Nat} (h : off + n ≤ l.length) {v : Nat} (hv : v < B ^ n) : seg (part l off n v) off n = v := by
 have h1 : (l.take off).length = off := by simp; omega
 have := join_mid (p := l.take off) (s := fix n v) (q := l.drop (off + n))
 rw [h1, length_fix] at this
 unfold seg
 rw [show part l off n v = join (l.take off) (fix n v) (l.drop (off + n)) from rfl, this, val_fix_of hv]
theorem fix_get : ∀ (n v i : Nat), i < n → (fix n v)[i]? = some (v / B ^ i % B)
 | 0, _, _, h => by omega
 | n + 1, v, 0, _ => by simp [fix]
 | n + 1, v, i + 1, h => by
  simp only [fix, List.getElem?_cons_succ]
  rw [fix_get n (v / B) i (by omega), Nat.div_div_eq_div_mul, Nat.pow_succ, Nat.mul_comm B]
theorem part_top {l : List Nat} {off n : Nat} (h : off + (n + 1) ≤ l.length) {v : Nat} (hv : v < B ^ (n + 1)) : (part l off (n + 1) v)[off + n]? = some (v / B ^ n) := by
 have h1 : (l.take off).length = off := by simp; omega
 have := join_get (p := l.take off) (s := fix (n + 1) v) (q := l.drop (off + (n + 1))) (i := n) (by rw [length_fix]; omega)
 rw [h1, fix_get _ _ _ (by omega)] at this
 rw [show part l off (n + 1) v = join (l.take off) (fix (n + 1) v) (l.drop (off + (n + 1))) from rfl, this]
 rw [Nat.mod_eq_of_lt (by rw [Nat.div_lt_iff_lt_mul (Bpow_pos n), Nat.mul_comm, ← Nat.pow_succ]; exact hv)]
def Corr (X b m Q k Y : Nat) (over : Bool) : Prop := match over with
 | true => X < k * b ∧ Y = X + B ^ m - k * b
 | false => k = Q ∧ Y = X % b
theorem corr_first {X b n k Q : Nat} (hb0 : 0 < b) (hb : b < B ^ n) (hk : k < B) (hQ : Q = X / b) (hge : Q ≤ k) :
  Corr X b (n + 1) Q k ((X + B ^ (n + 1) - b * k) % B ^ (n + 1)) (decide (X < b * k)) := by
 have hkb : b * k < B ^ (n + 1) := by rw [Nat.pow_succ]; exact Nat.mul_lt_mul'' hb hk
 by_cases h : X < b * k
 ·have : decide (X < b * k) = true := by simpa using h
  rw [this]
  refine ⟨by rw [Nat.mul_comm]; exact h, ?_⟩
  rw [Nat.mod_eq_of_lt (by omega), Nat.mul_comm]
 ·have : decide (X < b * k) = false := by simpa using h
  rw [this]
  have hkQ : k ≤ Q := by rw [hQ, Nat.le_div_iff_mul_le hb0, Nat.mul_comm]; omega
  have e : k = Q := by omega
  refine ⟨e, ?_⟩
  have h2 := Nat.div_add_mod X b
  rw [← hQ, ← e] at h2
  rw [show X + B ^ (n + 1) - b * k = X % b + B ^ (n + 1) by omega, Nat.add_mod_right, Nat.mod_eq_of_lt]
  exact Nat.lt_trans (Nat.mod_lt _ hb0) (Nat.lt_of_lt_of_le hb (Bpow_le (by omega)))
theorem corr_lt {X b n k Q Y : Nat} {over : Bool} (hb0 : 0 < b) (hb : b < B ^ n) (h : Corr X b (n + 1) Q k Y over) : Y < B ^ (n + 1) := by
 cases over with
 | true => obtain ⟨h1, h2⟩ := h; have := Bpow_pos (n + 1); omega
 | false => obtain ⟨h1, h2⟩ := h; rw [h2]; exact Nat.lt_trans (Nat.mod_lt _ hb0) (Nat.lt_of_lt_of_le hb (Bpow_le (by omega)))
theorem corr_next {X b n k Q Y : Nat} (hb0 : 0 < b) (hb : b < B ^ n) (hk : k < B) (hQ : Q = X / b) (h : Corr X b (n + 1) Q k Y true) :
  0 < k ∧ Corr X b (n + 1) Q (k - 1) ((Y + b) % B ^ (n + 1)) (decide (Y / B ^ n ≤ (Y + b) % B ^ (n + 1) / B ^ n)) := by
 obtain ⟨h1, h2⟩ := h
 have hkb : k * b ≤ B ^ (n + 1) := by rw [Nat.pow_succ, Nat.mul_comm]; exact Nat.le_of_lt (Nat.mul_lt_mul'' hb hk)
 have hk0 : 0 < k := by
  rcases Nat.eq_zero_or_pos k with h | h
  ·subst h; simp at h1
  ·exact h
 obtain ⟨m1, m2⟩ := more_over hb h1 hkb h2
 refine ⟨hk0, ?_⟩
 by_cases h3 : X < (k - 1) * b
 ·obtain ⟨m3, m4⟩ := m1 h3
  have : decide (Y / B ^ n ≤ (Y + b) % B ^ (n + 1) / B ^ n) = true := by simpa using m4
  rw [this, m3]
  exact ⟨h3, rfl⟩
 ·obtain ⟨m3, m4⟩ := m2 h3
  have : decide (Y / B ^ n ≤ (Y + b) % B ^ (n + 1) / B ^ n) = false := by simpa using m4
  rw [this, m3]
  have h4 : k - 1 ≤ Q := by rw [hQ, Nat.le_div_iff_mul_le hb0]; omega
  have h5 : Q < k := by rw [hQ, Nat.div_lt_iff_lt_mul hb0]; exact h1
  have e : k - 1 = Q := by omega
  refine ⟨e, ?_⟩
  rw [e, hQ]
  have := Nat.div_add_mod X b
  rw [Nat.mul_comm] at this
  omega
end Go.Proofs.YtgbjjikaenlkmaaGreat

/-
 nat: long division, its digit.
-/
namespace Go.Proofs.YtgbjjikaenlkmaaGreat
open Go Go.Abs Go.Limbs
variable {base : Prot}
set_option maxRecDepth 20000
attribute [local irreducible] vc
attribute [local simp] pureS touchV freezeL fuel shiftV u64 au
def Tq0 : Tab := (((((((Tab.none.with 139 (pureS sTrim)).with 117 (pureS sClone)).with 106 (pureS sOrder)).with 151 (pureS sByLimb)).with 152 (pureS sLead)).with 153 (pureS sLeft)).with 157 (pureS sRight)).with 154 (pureS sGuess)
def Tq : Tab := (Tq0.own 155 lessM).own 156 moreM
theorem Tq_ok : TabOk Tryz.prog base Tq := Tab.own_ok (Tab.own_ok (Tab.with_ok (Tab.with_ok (Tab.with_ok (Tab.with_ok (Tab.with_ok (Tab.with_ok (Tab.with_ok (Tab.with_ok Tab.none_ok trim_ok) clone_ok) order_ok) byLimb_ok) lead_ok) left_ok) right_ok) guess_ok) less_ok) more_ok
theorem Tq_less : Tq.mu 155 = lessM := (rfl)
theorem Tq_more : Tq.mu 156 = moreM := (rfl)
theorem Tq_mu (a : List AVal) (H : Heap) : Tq.mu 139 a H = none ∧ Tq.mu 117 a H = none ∧ Tq.mu 106 a H = none ∧ Tq.mu 151 a H = none ∧ Tq.mu 152 a H = none ∧ Tq.mu 153 a H = none ∧ Tq.mu 157 a H = none ∧ Tq.mu 154 a H = none :=
 ⟨rfl, rfl, rfl, rfl, rfl, rfl, rfl, rfl⟩
theorem Tq_trim : Tq.fn 139 = pureS sTrim := (rfl)
theorem Tq_clone : Tq.fn 117 = pureS sClone := (rfl)
theorem Tq_order : Tq.fn 106 = pureS sOrder := (rfl)
theorem Tq_by : Tq.fn 151 = pureS sByLimb := (rfl)
theorem Tq_lead : Tq.fn 152 = pureS sLead := (rfl)
theorem Tq_left : Tq.fn 153 = pureS sLeft := (rfl)
theorem Tq_right : Tq.fn 157 = pureS sRight := (rfl)
theorem Tq_guess : Tq.fn 154 = pureS sGuess := (rfl)
theorem corr_loop {b n i N X Q k0 Y0 : Nat} {o0 : Bool} {l0 : List Nat} {qe : Ent} {g4 : AVal} {R : LExit → AFr → Heap → Prop} {fr : AFr} {H : Heap} (hw : Wf l0) (hl : l0.length = N) (hN : N ≤ 1000000) (him : i + (n + 1) ≤ N) (hb0 : 0 < b) (hbn : len b = n) (hn : n ≤ 100000) (hQ : Q = X / b)
  (hk : k0 < B) (hc : Corr X b (n + 1) Q k0 Y0 o0) (hH : H = [rowE 0 (part l0 i (n + 1) Y0), qe])
  (h1 : fr 1 = .p (.lst ((limbs b).map u64))) (h4 : fr 4 = g4) (h8 : fr 8 = .p (.int .i64 n)) (h10 : fr 10 = .own 0 0 N 0) (h11 : fr 11 = .p (.int .i64 i)) (h12 : fr 12 = .p (.int .u64 k0)) (h13 : fr 13 = .p (.bool o0))
  (hR : ∀ fr' : AFr, fr' 1 = .p (.lst ((limbs b).map u64)) → fr' 4 = g4 → fr' 8 = .p (.int .i64 n) → fr' 10 = .own 0 0 N 0 → fr' 11 = .p (.int .i64 i) → fr' 12 = .p (.int .u64 Q) → (∀ j, j = 0 ∨ j = 9 → fr' j = fr j) → R .normal fr' [rowE 0 (part l0 i (n + 1) (X % b)), qe]) :
  vc Tq lf137_B0 R fr H := by
 have hbB : b < B ^ n := by rw [← hbn]; exact lt_len b
 simp only [lf137_B0, vc_block]
 refine loop_ind (fun fr' H => ∃ (k Y : Nat) (o : Bool), k < B ∧ Corr X b (n + 1) Q k Y o ∧ H = [rowE 0 (part l0 i (n + 1) Y), qe] ∧ fr' 1 = .p (.lst ((limbs b).map u64)) ∧ fr' 4 = g4 ∧ fr' 8 = .p (.int .i64 n) ∧ fr' 10 = .own 0 0 N 0 ∧ fr' 11 = .p (.int .i64 i) ∧
   fr' 12 = .p (.int .u64 k) ∧ fr' 13 = .p (.bool o) ∧ (∀ j, j = 0 ∨ j = 9 → fr' j = fr j)) (fun fr _ => ivar (fr 12)) ⟨k0, Y0, o0, hk, hc, hH, h1, h4, h8, h10, h11, h12, h13, fun _ _ => rfl⟩ ?_
 rintro fr' H' ⟨k, Y, o, hk, hc, rfl, h1, h4, h8, h10, h11, h12, h13, hkeep⟩
 have k0' := hkeep 0 (.inl rfl)
 have k9' := hkeep 9 (.inr rfl)
 have hY := corr_lt hb0 hbB hc
 cases o with
 | false =>
  obtain ⟨rfl, rfl⟩ := hc
  simp [h13]
  exact hR _ (by simp [h1]) (by simp [h4]) (by simp [h8]) (by simp [h10]) (by simp [h11]) (by simp [h12]) (by rintro j (rfl | rfl) <;> simp [k0', k9'])
 | true =>
  obtain ⟨hk0, hc'⟩ := corr_next hb0 hbB hk hQ hc
  obtain ⟨J, hJ⟩ : ∃ t, t = i + n := ⟨_, rfl⟩
  obtain ⟨K, hK⟩ : ∃ t, t = J + 1 := ⟨_, rfl⟩
  have hw1 : IntKind.i64.wrap ((i : Int) + n) = (J : Int) := by rw [← Int.natCast_add, ← hJ]; exact wrap_i (by omega)
  have hw2 : IntKind.i64.wrap ((J : Int) + 1) = (K : Int) := by rw [wrap_succ (i := J) (by omega), hK]
  have hw3 : IntKind.u64.wrap ((k : Int) - 1) = ((k - 1 : Nat) : Int) := by rw [IntWalk.u64_in _ (by rw [B_lit] at hk; omega)]; omega
  obtain ⟨k', hk'⟩ : ∃ t, t = k - 1 := ⟨_, rfl⟩
  rw [← hk'] at hw3 hc'
  have htop := part_top (l := l0) (off := i) (n := n) (by omega) hY
  rw [← hJ] at htop
  obtain ⟨L, hL⟩ : ∃ t, t = part l0 i (n + 1) Y := ⟨_, rfl⟩
  have hLw : Wf L := by rw [hL]; exact part_wf hw _ _ _
  have hLl : L.length = N := by rw [hL, part_length (by omega), hl]
  rw [← hL] at htop
  have hmore := moreM_at (H := [rowE 0 L, qe]) (k := 0) (off := i) (n := n + 1) (ver := 0) (a := b) (l := L) rfl hLw (by omega) (by omega) (by omega) (by omega)
  have hseg : seg L i (n + 1) = Y := by rw [hL]; exact seg_part (by omega) hY
  have hL2 : part L i (n + 1) (Y + b) = part l0 i (n + 1) ((Y + b) % B ^ (n + 1)) := by rw [hL, part_part (by omega), part_mod]
  rw [hseg, hL2] at hmore
  obtain ⟨Y', hY'⟩ : ∃ t, t = (Y + b) % B ^ (n + 1) := ⟨_, rfl⟩
  rw [← hY'] at hmore hc'
  have hY'lt : Y' < B ^ (n + 1) := by rw [hY']; exact Nat.mod_lt _ (Bpow_pos _)
  have htop2 := part_top (l := l0) (off := i) (n := n) (by omega) hY'lt
  rw [← hJ] at htop2
  obtain ⟨L2, hL2⟩ : ∃ t, t = part l0 i (n + 1) Y' := ⟨_, rfl⟩
  rw [← hL2] at hmore htop2
  obtain ⟨t1, ht1⟩ : ∃ t, t = Y / B ^ n := ⟨_, rfl⟩
  obtain ⟨t2, ht2⟩ : ∃ t, t = Y' / B ^ n := ⟨_, rfl⟩
  rw [← ht1] at htop hc'
  rw [← ht2] at htop2 hc'
  simp [rowE] at hmore
  have hiK : i ≤ K := by omega
  have hKN : K ≤ N := by omega
  have hJN : J < N := by omega
  have hsub : ((K : Int) - i).toNat = n + 1 := by omega
  rw [← hL]
  simp [h1, h4, h8, h10, h11, h12, h13, hw1, hw2, hw3, htop, htop2, hmore, hiK, hKN, hJN, hsub, rowE, Tq_more, ivar]
  refine ⟨⟨k', by omega, Y', ?_⟩, by omega⟩
  by_cases h : t1 ≤ t2
  ·rw [decide_eq_true h] at hc'
   exact .inr ⟨hc', by rw [hL2], rfl, h, k0', k9'⟩
  ·rw [decide_eq_false h] at hc'
   exact .inl ⟨hc', by rw [hL2], rfl, by omega, k0', k9'⟩
theorem digit_limbs {x : List Nat} {b i n N : Nat} (hx : Wf x) (hl : x.length = N) (hn : 2 ≤ n) (hbn : len b = n) (him : i + (n + 1) ≤ N) (hr : val x < b * (B ^ i * B)) :
  ∃ h l nx d e, x[i + n]? = some h ∧ x[i + n - 1]? = some l ∧ x[i + n - 2]? = some nx ∧ (limbs b)[n - 1]? = some d ∧ (limbs b)[n - 2]? = some e ∧
   val x / B ^ i / B ^ (n - 2) = (h * B + l) * B + nx ∧ b / B ^ (n - 2) = d * B + e ∧ seg x i (n + 1) = val x / B ^ i := by
 have lb : (limbs b).length = len b := rfl
 have hbB : b < B ^ n := by rw [← hbn]; exact lt_len b
 obtain ⟨h, hh⟩ : ∃ t, x[i + n]? = some t := ⟨_, List.getElem?_eq_getElem (by omega)⟩
 obtain ⟨l, hll⟩ : ∃ t, x[i + n - 1]? = some t := ⟨_, List.getElem?_eq_getElem (by omega)⟩
 obtain ⟨nx, hnx⟩ : ∃ t, x[i + n - 2]? = some t := ⟨_, List.getElem?_eq_getElem (by omega)⟩
 obtain ⟨d, hd⟩ : ∃ t, (limbs b)[n - 1]? = some t := ⟨_, List.getElem?_eq_getElem (by omega)⟩
 obtain ⟨e, he⟩ : ∃ t, (limbs b)[n - 2]? = some t := ⟨_, List.getElem?_eq_getElem (by omega)⟩
 refine ⟨h, l, nx, d, e, hh, hll, hnx, hd, he, ?_, ?_, ?_⟩
 ·rw [Nat.div_div_eq_div_mul, ← Nat.pow_add, show i + (n - 2) = i + n - 2 by omega, ← val_drop_eq hx, val_drop hnx, show i + n - 2 + 1 = i + n - 1 by omega, val_drop hll, show i + n - 1 + 1 = i + n by omega, val_drop hh, val_drop_eq hx]
  have hz : val x / B ^ (i + n + 1) = 0 := by
   refine Nat.div_eq_of_lt (Nat.lt_of_lt_of_le hr ?_)
   have := Nat.mul_le_mul_right (B ^ i * B) (Nat.le_of_lt hbB)
   refine Nat.le_trans this (Nat.le_of_eq ?_)
   rw [Nat.pow_succ, Nat.pow_add]
   grind
  rw [hz]
  grind
 ·have wb := wf_limbs b
  have h1 := val_drop_eq wb (n - 2)
  rw [val_limbs] at h1
  rw [← h1, val_drop he, show n - 2 + 1 = n - 1 by omega, val_drop hd, List.drop_eq_nil_of_le (by omega), val_nil]
  grind
 ·rw [seg_eq hx]
  refine Nat.mod_eq_of_lt ?_
  rw [Nat.div_lt_iff_lt_mul (Bpow_pos i)]
  refine Nat.lt_of_lt_of_le hr ?_
  have := Nat.mul_le_mul_right (B ^ i * B) (Nat.le_of_lt hbB)
  refine Nat.le_trans this (Nat.le_of_eq ?_)
  rw [Nat.pow_succ]
  grind
end Go.Proofs.YtgbjjikaenlkmaaGreat

/-
 nat: long division.
-/
namespace Go.Proofs.YtgbjjikaenlkmaaGreat
open Go Go.Abs Go.Limbs
variable {base : Prot}
set_option maxRecDepth 20000
attribute [local irreducible] vc
attribute [local simp] pureS touchV freezeL fuel shiftV u64 au
theorem digits_loop {A b n N qn : Nat} {g9 : AVal} {R : LExit → AFr → Heap → Prop} {fr : AFr} {H : Heap} {x0 : List Nat} (hN : N = qn + n) (hN2 : N ≤ 1000000) (hn : 2 ≤ n) (hn2 : n ≤ 100000) (hb0 : 0 < b) (hbn : len b = n)
  (hx : x0.length = N) (hxw : Wf x0) (hxv : val x0 = A) (hA : A < b * B ^ qn) (hH : H = [rowE 0 x0, rowE 0 (List.replicate qn 0)])
  (h1 : fr 1 = .p (.lst ((limbs b).map u64))) (h4 : fr 4 = .own 1 0 qn 0) (h8 : fr 8 = .p (.int .i64 n)) (h9 : fr 9 = g9) (h10 : fr 10 = .own 0 0 N 0) (h11 : fr 11 = .p (.int .i64 ((qn : Int) - 1)))
  (hR : ∀ (fr' : AFr) (xl ql : List Nat), xl.length = N → Wf xl → val xl = A % b → ql.length = qn → Wf ql → val ql = A / b → fr' 4 = .own 1 0 qn 0 → fr' 9 = g9 → fr' 10 = .own 0 0 N 0 → R .normal fr' [rowE 0 xl, rowE 0 ql]) :
  vc Tq lf137_B1 R fr H := by
 have hbB : b < B ^ n := by rw [← hbn]; exact lt_len b
 have lb : (limbs b).length = len b := rfl
 simp only [lf137_B1, vc_block]
 refine loop_ind (fun fr H => ∃ (c : Nat) (xl ql : List Nat), c ≤ qn ∧ xl.length = N ∧ Wf xl ∧ ql.length = qn ∧ Wf ql ∧ val xl < b * B ^ c ∧ A = val xl + b * B ^ c * val (ql.drop c) ∧ H = [rowE 0 xl, rowE 0 ql] ∧
   fr 1 = .p (.lst ((limbs b).map u64)) ∧ fr 4 = .own 1 0 qn 0 ∧ fr 8 = .p (.int .i64 n) ∧ fr 9 = g9 ∧ fr 10 = .own 0 0 N 0 ∧ fr 11 = .p (.int .i64 ((c : Int) - 1)))
  (fun fr _ => dvar (fr 11)) ⟨qn, x0, List.replicate qn 0, by omega, hx, hxw, by simp, Wf.zeros _, by rw [hxv]; exact hA, by rw [List.drop_eq_nil_of_le (by simp), val_nil, hxv]; simp, hH, h1, h4, h8, h9, h10, h11⟩ ?_
 rintro fr H ⟨c, xl, ql, hc, hxl, hxw, hql, hqw, hlt, hA, rfl, h1, h4, h8, h9, h10, h11⟩
 by_cases hc0 : 0 < c
 ·obtain ⟨i, rfl⟩ : ∃ m, c = m + 1 := ⟨c - 1, by omega⟩
  have e11 : (((i + 1 : Nat) : Int) - 1) = (i : Int) := by omega
  rw [e11] at h11
  rw [Nat.pow_succ] at hlt hA
  have him : i + (n + 1) ≤ N := by omega
  obtain ⟨hh, ll, nx, d, e, g1, g2, g3, g4, g5, hX, hbb, hseg⟩ := digit_limbs hxw hxl hn hbn him hlt
  obtain ⟨X, hXd⟩ : ∃ t, t = val xl / B ^ i := ⟨_, rfl⟩
  rw [← hXd] at hX hseg
  obtain ⟨Q, hQ⟩ : ∃ t, t = X / b := ⟨_, rfl⟩
  have hQB : Q < B := by rw [hQ, hXd]; exact long_lt hlt hb0 (Bpow_pos i)
  have hnxB := hxw.get g3
  have hguess := guess_quot (X := X) (b := b) (n := n - 2) hb0 (by rw [← hQ]; exact hQB) hX hbb hnxB
  have hG := sGuess_nat (hxw.get g1) (hxw.get g2) hnxB ((wf_limbs b).get g4) ((wf_limbs b).get g5)
  obtain ⟨k, hk⟩ : ∃ t, t = guessN hh ll nx d e := ⟨_, rfl⟩
  have hkB : k < B := by rw [hk]; exact guessN_lt (hxw.get g2)
  rw [← hk] at hguess hG
  rw [← hQ] at hguess
  have hcorr := corr_first hb0 hbB hkB hQ hguess
  have hless := lessM_at (H := [rowE 0 xl, rowE 0 ql]) (k := 0) (off := i) (n := n + 1) (ver := 0) (z := k) (a := b) (l := xl) rfl hxw (by omega) (by omega) (by omega) hkB (by omega)
  rw [hseg, part_mod] at hless
  obtain ⟨Y0, hY0⟩ : ∃ t, t = (X + B ^ (n + 1) - b * k) % B ^ (n + 1) := ⟨_, rfl⟩
  obtain ⟨o0, ho0⟩ : ∃ t, t = decide (X < b * k) := ⟨_, rfl⟩
  rw [← hY0, ← ho0] at hcorr hless
  obtain ⟨L, hL⟩ : ∃ t, t = part xl i (n + 1) Y0 := ⟨_, rfl⟩
  rw [← hL] at hless
  simp [rowE] at hless
  obtain ⟨J, hJ⟩ : ∃ t, t = i + n := ⟨_, rfl⟩
  obtain ⟨K, hK⟩ : ∃ t, t = J + 1 := ⟨_, rfl⟩
  have w1 : IntKind.i64.wrap ((i : Int) + n) = (J : Int) := by rw [← Int.natCast_add, ← hJ]; exact wrap_i (by omega)
  have w2 : IntKind.i64.wrap ((J : Int) + 1) = (K : Int) := by rw [wrap_succ (i := J) (by omega), hK]
  obtain ⟨J1, hJ1⟩ : ∃ t, t = J - 1 := ⟨_, rfl⟩
  obtain ⟨J2, hJ2⟩ : ∃ t, t = J - 2 := ⟨_, rfl⟩
  obtain ⟨n1, hn1⟩ : ∃ t, t = n - 1 := ⟨_, rfl⟩
  obtain ⟨n2, hn2⟩ : ∃ t, t = n - 2 := ⟨_, rfl⟩
  have w3 : IntKind.i64.wrap ((J : Int) - 1) = (J1 : Int) := by rw [IntWalk.i64_in _ (by omega)]; omega
  have w4 : IntKind.i64.wrap ((J : Int) - 2) = (J2 : Int) := by rw [IntWalk.i64_in _ (by omega)]; omega
  have w5 : IntKind.i64.wrap ((n : Int) - 1) = (n1 : Int) := by rw [IntWalk.i64_in _ (by omega)]; omega
  have w6 : IntKind.i64.wrap ((n : Int) - 2) = (n2 : Int) := by rw [IntWalk.i64_in _ (by omega)]; omega
  have w7 : IntKind.i64.wrap ((i : Int) - 1) = (i : Int) - 1 := IntWalk.i64_in _ (by omega)
  rw [← hJ] at g1 g2 g3
  rw [← hJ1] at g2
  rw [← hJ2] at g3
  rw [← hn1] at g4
  rw [← hn2] at g5
  have b1 : J < N := by omega
  have b2 : J1 < N := by omega
  have b3 : J2 < N := by omega
  have b4 : i ≤ K := by omega
  have b5 : K ≤ N := by omega
  have b6 : i < qn := by omega
  have hsub : ((K : Int) - i).toNat = n + 1 := by omega
  obtain ⟨o, ho⟩ : ∃ t, ql[i]? = some t := ⟨_, List.getElem?_eq_getElem (by omega)⟩
  simp [h1, h4, h8, h9, h10, h11, w1, w2, w3, w4, w5, w6, g1, g2, g3, g4, g5, b1, b2, b3, b4, b5, hsub, hG, hless, rowE, Tq_mu, Tq_less, Tq_guess]
  refine corr_loop (b := b) (n := n) (i := i) (N := N) (X := X) (Q := Q) (k0 := k) (Y0 := Y0) (o0 := o0) (l0 := xl) (qe := rowE 0 ql) (g4 := .own 1 0 qn 0) hxw hxl hN2 him hb0 hbn (by omega) hQ hkB hcorr (by rw [← hL]; rfl) (by simp [h1]) (by simp [h4]) (by simp [h8]) (by simp [h10]) (by simp [h11]) (by simp) (by simp) ?_
  intro fr' f1 f4 f8 f10 f11 f12 fk
  have f9 := fk 9 (.inr rfl)
  simp [h9] at f9
  simp [f1, f4, f8, f9, f10, f11, f12, b6, ho, w7, rowE, dvar]
  have hst := long_step (A := A) (R := val xl) (b := b) (P := B ^ i) (q := val (ql.drop (i + 1))) hb0 (Bpow_pos i) hA
  rw [← hXd, ← hQ] at hst
  have hpv : val (part xl i (n + 1) (X % b)) = X % b * B ^ i + val xl % B ^ i := by
   have h2 := part_val (l := xl) (off := i) (n := n + 1) (v := X % b) (by omega) (Nat.lt_trans (Nat.mod_lt _ hb0) (Nat.lt_of_lt_of_le hbB (Bpow_le (by omega))))
   have h3 := Nat.div_add_mod (val xl) (B ^ i)
   rw [← hXd] at h3
   rw [hseg] at h2
   rw [Nat.mul_comm (X % b)]
   omega
  refine ⟨i, by omega, part xl i (n + 1) (X % b), by rw [part_length (by omega), hxl], part_wf hxw _ _ _, ql.set i Q, by simp [hql], hqw.set _ hQB, ?_, ?_, ⟨rfl, by rw [List.map_set]; rfl⟩, rfl⟩
  ·rw [hpv]; exact hst.2
  ·rw [hpv, drop_set_self (by omega), val_cons]; exact hst.1
 ·have : c = 0 := by omega
  subst this
  simp [h11]
  rw [List.drop_zero, Nat.pow_zero, Nat.mul_one] at hA
  rw [Nat.pow_zero, Nat.mul_one] at hlt
  obtain ⟨hq, hr⟩ := div_done (a := A) (k := b) (q := val ql) (r := val xl) (by omega) hlt
  exact hR _ xl ql hxl hxw hr hql hqw hq (by simp [h4]) (by simp [h9]) (by simp [h10])
def sQuot : List PVal → Option PVal
 | [.lst xs, .lst ys] => match decN xs, decN ys with | some a, some b => if b = 0 then none else some (.tup [numP (a / b), numP (a % b)]) | _, _ => none
 | _ => none
theorem sQuot_num {a b : Nat} (ha : len a ≤ 100000) (hb : len b ≤ 100000) (h0 : b ≠ 0) : sQuot [.lst ((limbs a).map u64), .lst ((limbs b).map u64)] = some (.tup [.lst ((limbs (a / b)).map u64), .lst ((limbs (a % b)).map u64)]) := by
 simp only [sQuot, decN_num ha, decN_num hb, if_neg h0]; rfl
theorem norm_len {b x n : Nat} (hn : len b = n) (hx : (limbs b)[n - 1]? = some x) (hn1 : 1 ≤ n) : x ≠ 0 ∧ x < B ∧ len (b * 2 ^ (64 - size x)) = n ∧ 64 - size x ≤ 63 := by
 have lb : (limbs b).length = len b := rfl
 have hxB := (wf_limbs b).get hx
 have hx0 : x ≠ 0 := by
  have := (canon_limbs b).2
  rw [List.getLast?_eq_getElem?, lb, hn, hx] at this
  exact fun e => this (by rw [e])
 have hsz := size64 hxB
 have hsp := size_pos hx0
 have hb : size b = 64 * (n - 1) + size x := by
  have h1 := size_limbs ((wf_limbs b).take (n - 1)) hx0
  rw [← take_get hx, show n - 1 + 1 = n by omega, List.take_of_length_le (by omega), val_limbs, List.length_take, Nat.min_eq_left (by omega)] at h1
  exact h1
 refine ⟨hx0, hxB, ?_, by omega⟩
 have hbn : b ≠ 0 := fun e => by rw [e, len_zero] at hn; omega
 have h1 : size (b * 2 ^ (64 - size x)) = 64 * n := by rw [size_shift hbn, hb]; omega
 have h2 : b * 2 ^ (64 - size x) < B ^ n := by rw [B_pow, ← size_le_iff]; omega
 have h3 : ¬ b * 2 ^ (64 - size x) < B ^ (n - 1) := by rw [B_pow, ← size_le_iff]; omega
 have h4 := len_le h2
 have h5 : n - 1 < len (b * 2 ^ (64 - size x)) := lt_len_iff.2 (by omega)
 omega
theorem quot_ok : FnOk Tryz.prog base 137 (pureS sQuot) := by
 refine pure_of_vc hmix Tq_ok globNone low137 fun args z hs hf => ?_
 unfold sQuot at hs
 split at hs
 case h_2 => cases hs
 rename_i xs ys
 split at hs
 case h_2 => cases hs
 rename_i a b ha hb
 split at hs
 case isTrue => cases hs
 rename_i hb0
 cases hs
 obtain ⟨rfl, hla⟩ := decN_some ha
 obtain ⟨rfl, hlb⟩ := decN_some hb
 refine ⟨by simp [lf137], ?_⟩
 have la : (limbs a).length = len a := rfl
 have lb : (limbs b).length = len b := rfl
 have hO := sOrder_num hla hlb
 have hlb0 : len b ≠ 0 := fun e => hb0 (len_eq_zero.1 e)
 by_cases hab : a < b
 ·have hc : cmpI a b = -1 := cmpI_lt hab
  rw [hc] at hO
  have ht := sTrim_map (wf_limbs a) (by omega)
  rw [val_limbs] at ht
  have hcl := sClone_num hla
  simp [lf137, hO, ht, hcl, Tq_mu, Tq_order, Tq_trim, Tq_clone, Nat.div_eq_of_lt hab, Nat.mod_eq_of_lt hab, numP, lstP, limbs_zero]
 ·have hc : ¬ cmpI a b < 0 := by
   unfold cmpI; split
   ·omega
   ·split <;> omega
  by_cases h1 : len b = 1
  ·have hbB : b < B := by have := lt_len b; rw [h1, Nat.pow_one] at this; exact this
   have hlim := limbs_small hb0 hbB
   have hby := sByLimb_num hla (Nat.pos_of_ne_zero hb0) hbB
   have hr : a % b < B := Nat.lt_trans (Nat.mod_lt _ (Nat.pos_of_ne_zero hb0)) hbB
   have ht := sTrim_map (l := [a % b]) (Wf.cons hr Wf.nil) (by simp)
   obtain ⟨r, hrr⟩ : ∃ t, t = a % b := ⟨_, rfl⟩
   rw [← hrr] at hby ht ⊢
   simp [val] at ht
   rw [hlim] at hO ⊢
   simp only [List.map_cons, List.map_nil, u64] at hO
   simp [lf137, hO, hc, hby, ht, fillS, Tq_mu, Tq_order, Tq_trim, Tq_by, numP, lstP]
  ·have hb1 : ((len b : Int) == 1) = false := beq_false_of_ne (by omega)
   obtain ⟨n, hn⟩ : ∃ t, t = len b := ⟨_, rfl⟩
   rw [← hn] at hb1 h1 hlb0 lb hlb
   have hn2 : 2 ≤ n := by omega
   have hba : b ≤ a := by omega
   have hla2 : n ≤ len a := by rw [hn]; exact len_mono hba
   obtain ⟨x, hx⟩ : ∃ t, (limbs b)[n - 1]? = some t := ⟨_, List.getElem?_eq_getElem (by omega)⟩
   obtain ⟨hx0, hxB, hlb', hby63⟩ := norm_len hn.symm hx (by omega)
   have hlead := sLead_nat hxB
   obtain ⟨s, hs⟩ : ∃ t, t = 64 - size x := ⟨_, rfl⟩
   rw [← hs] at hlb' hby63 hlead
   obtain ⟨b', hb'⟩ : ∃ t, t = b * 2 ^ s := ⟨_, rfl⟩
   obtain ⟨A, hA⟩ : ∃ t, t = a * 2 ^ s := ⟨_, rfl⟩
   rw [← hb'] at hlb'
   have hLb := sLeft_num (a := b) (n := s) (by omega) (by omega)
   have hLa := sLeft_num (a := a) (n := s) (by omega) (by omega)
   rw [← hb'] at hLb
   rw [← hA] at hLa
   obtain ⟨N, hN⟩ : ∃ t, t = len a + 1 := ⟨_, rfl⟩
   have hAN : A < B ^ N := by
    rw [hA, hN, Nat.pow_succ]
    refine Nat.mul_lt_mul'' (lt_len a) ?_
    rw [← pow64]
    exact Nat.pow_lt_pow_right (by omega) (by omega)
   have hlA : len A ≤ N := len_le hAN
   have llA : (limbs A).length = len A := rfl
   obtain ⟨m1, hm1⟩ : ∃ t, t = len a - n := ⟨_, rfl⟩
   obtain ⟨qn, hqn⟩ : ∃ t, t = m1 + 1 := ⟨_, rfl⟩
   obtain ⟨n1, hn1⟩ : ∃ t, t = n - 1 := ⟨_, rfl⟩
   rw [← hn1] at hx
   have w1 : IntKind.i64.wrap ((n : Int) - 1) = (n1 : Int) := by rw [IntWalk.i64_in _ (by omega)]; omega
   have w2 : IntKind.i64.wrap ((len a : Int) + 1) = (N : Int) := by rw [wrap_succ (i := len a) (by omega), hN]
   have w3 : IntKind.i64.wrap ((len a : Int) - n) = (m1 : Int) := by rw [IntWalk.i64_in _ (by omega)]; omega
   have w4 : IntKind.i64.wrap ((m1 : Int) + 1) = (qn : Int) := by rw [wrap_succ (i := m1) (by omega), hqn]
   have w5 : IntKind.i64.wrap ((qn : Int) - 1) = (qn : Int) - 1 := IntWalk.i64_in _ (by omega)
   have c1 := mul_capI N (by omega)
   have c2 := mul_capI qn (by omega)
   have hN0 : 0 < N := by omega
   have hmin : min (len A) N = len A := Nat.min_eq_left hlA
   have htk : List.take N (List.map au (limbs A)) = List.map au (limbs A) := List.take_of_length_le (by simp [llA]; exact hlA)
   have hb'0 : 0 < b' := by
    rw [hb']
    exact Nat.mul_pos (Nat.pos_of_ne_zero hb0) (Nat.two_pow_pos s)
   have hAb : A < b' * B ^ qn := by
    have h2 := len_ge hb0
    rw [← hn] at h2
    have h3 : B ^ len a ≤ b * B ^ qn := by
     refine Nat.le_trans (Nat.le_of_eq ?_) (Nat.mul_le_mul_right _ h2)
     rw [← Nat.pow_add]
     congr 1
     omega
    rw [hA, hb', Nat.mul_right_comm]
    exact Nat.mul_lt_mul_of_pos_right (Nat.lt_of_lt_of_le (lt_len a) h3) (Nat.two_pow_pos s)
   simp [lf137, la, lb, hO, hc, hb1, getE hx, hx, hlead, hLb, hLa, w1, w2, w3, w4, w5, c1, c2, hN0, hmin, htk, llA, comp_au, Tq_mu, Tq_order, Tq_lead, Tq_left]
   refine digits_loop (A := A) (b := b') (n := n) (N := N) (qn := qn) (g9 := .p (.int .i64 s)) (x0 := fix N A) (by omega) (by omega) hn2 (by omega) hb'0 hlb' (length_fix _ _) (wf_fix _ _) (val_fix_of hAN) hAb (by rw [fix_eq hlA]; simp [rowE])
    (by simp) (by simp) (by simp) (by simp) (by simp) (by simp) ?_
   intro fr' xl ql hxl hxw hxv hql hqw hqv f4 f9 f10
   obtain ⟨T1, t1⟩ := row_end hql hqw (by omega) hqv
   obtain ⟨T2, t2⟩ := row_end hxl hxw (by omega) hxv
   have hq : A / b' = a / b := by rw [hA, hb', shift_div]
   have hrr : A % b' / 2 ^ s = a % b := by rw [hA, hb', shift_mod]
   have hlr : len (A % b') ≤ 100000 := Nat.le_trans (len_mono (Nat.le_of_lt (Nat.mod_lt _ hb'0))) (by omega)
   have hR := sRight_num (a := A % b') (n := s) hlr (by omega)
   rw [hrr] at hR
   rw [hq] at t1
   simp only [numP, lstP] at t1 t2
   simp [f4, f9, f10, rowE, hql, hxl, T1, T2, t1, t2, hR, mapO_au_take, mapO_au, touch_au, touch_au_take, Tq_mu, Tq_trim, Tq_right, freeze1, numP, lstP]
end Go.Proofs.YtgbjjikaenlkmaaGreat

/-
 nat: Common, and the functions that are called from outside.
-/
namespace Go.Proofs.YtgbjjikaenlkmaaGreat
open Go Go.Abs Go.Limbs
variable {base : Prot}
set_option maxRecDepth 20000
attribute [local irreducible] vc
attribute [local simp] pureS touchV freezeL fuel shiftV u64 au
def Tcm : Tab := (Tab.none.with 137 (pureS sQuot)).with 117 (pureS sClone)
theorem Tcm_ok : TabOk Tryz.prog base Tcm := Tab.with_ok (Tab.with_ok Tab.none_ok quot_ok) clone_ok
theorem Tcm_mu (f : FuncId) (a : List AVal) (H : Heap) : Tcm.mu f a H = none := (rfl)
theorem Tcm_quot : Tcm.fn 137 = pureS sQuot := (rfl)
theorem Tcm_clone : Tcm.fn 117 = pureS sClone := (rfl)
def sCommon : List PVal → Option PVal
 | [.lst xs, .lst ys] => match decN xs, decN ys with | some a, some b => some (numP (Nat.gcd a b)) | _, _ => none
 | _ => none
theorem sCommon_num {a b : Nat} (ha : len a ≤ 100000) (hb : len b ≤ 100000) : sCommon [.lst ((limbs a).map u64), .lst ((limbs b).map u64)] = some (.lst ((limbs (Nat.gcd a b)).map u64)) := by
 simp only [sCommon, decN_num ha, decN_num hb]; rfl
theorem common_ok : FnOk Tryz.prog base 107 (pureS sCommon) := by
 refine pure_of_vc hmix Tcm_ok globNone low107 fun args z hs hf => ?_
 unfold sCommon at hs
 split at hs
 case h_2 => cases hs
 rename_i xs ys
 split at hs
 case h_2 => cases hs
 rename_i a b ha hb
 cases hs
 obtain ⟨rfl, hla⟩ := decN_some ha
 obtain ⟨rfl, hlb⟩ := decN_some hb
 refine ⟨by simp [lf107], ?_⟩
 obtain ⟨G, hG⟩ : ∃ t, t = Nat.gcd a b := ⟨_, rfl⟩
 rw [← hG]
 simp [lf107]
 simp only [lf107_B0, vc_block]
 refine loop_ind (fun fr H => ∃ m n : Nat, len m ≤ 100000 ∧ len n ≤ 100000 ∧ Nat.gcd m n = G ∧ H = [] ∧ fr 0 = .p (.lst ((limbs m).map u64)) ∧ fr 1 = .p (.lst ((limbs n).map u64)))
  (fun fr _ => match fr 1 with | .p (.lst es) => (match decN es with | some n => n | none => 0) | _ => 0) ⟨a, b, hla, hlb, hG.symm, rfl, by simp, by simp⟩ ?_
 rintro fr H ⟨m, n, hm, hn, hg, rfl, h0, h1⟩
 have ln : (limbs n).length = len n := rfl
 by_cases hz : n = 0
 ·subst hz
  rw [Nat.gcd_zero_right] at hg
  subst hg
  have hcl := sClone_num hm
  simp [h0, h1, limbs_zero, hcl, Tcm_mu, Tcm_clone, numP, lstP]
 ·have hln : len n ≠ 0 := fun e => hz (len_eq_zero.1 e)
  have hlI : (0 : Int) < len n := by omega
  have hlN : 0 < len n := by omega
  have hq := sQuot_num hm hn hz
  have hr : len (m % n) ≤ 100000 := Nat.le_trans (len_mono (Nat.le_of_lt (Nat.mod_lt _ (Nat.pos_of_ne_zero hz)))) hn
  have hd1 := decN_num hn
  have hd2 := decN_num hr
  obtain ⟨r, hrr⟩ : ∃ t, t = m % n := ⟨_, rfl⟩
  rw [← hrr] at hq hr hd2
  simp [h0, h1, ln, hlI, hlN, hq, hd1, hd2, Tcm_mu, Tcm_quot]
  refine ⟨⟨n, hn, r, hr, ?_, rfl, rfl⟩, by rw [hrr]; exact Nat.mod_lt _ (Nat.pos_of_ne_zero hz)⟩
  rw [hrr, Nat.gcd_comm, ← Nat.gcd_rec, Nat.gcd_comm]
  exact hg
def okL (l : List Nat) : Bool := decide (l.length ≤ 64) && decide (limbs (val l) = l)
theorem okL_true {l : List Nat} (h : okL l = true) : ∃ a, l = limbs a ∧ len a ≤ 64 := by
 unfold okL at h
 simp only [Bool.and_eq_true, decide_eq_true_eq] at h
 exact ⟨val l, h.2.symm, by unfold len; rw [h.2]; exact h.1⟩
theorem okL_num (a : Nat) : okL (limbs a) = decide (len a ≤ 64) := by
 unfold okL
 rw [val_limbs, decide_eq_true (rfl : limbs a = limbs a), Bool.and_true]
 rfl
theorem sValid_list {l : List Nat} (h : Wf l) : sValid [.lst (l.map u64)] = some (.bool (okL l)) := by
 simp only [sValid, decU_map h]; rfl
def Tnat : Tab := ((((((((((Tab.none.with 139 (pureS sTrim)).with 105 (pureS sValid)).with 106 (pureS sOrder)).with 141 (pureS sPlus)).with 142 (pureS sMinus)).with 109 (pureS sTimes)).with 137 (pureS sQuot)).with 107 (pureS sCommon)).with 153 (pureS sLeft)).with 157 (pureS sRight)).with 100 (pureS sLen64)
theorem Tnat_ok : TabOk Tryz.prog base Tnat := Tab.with_ok (Tab.with_ok (Tab.with_ok (Tab.with_ok (Tab.with_ok (Tab.with_ok (Tab.with_ok (Tab.with_ok (Tab.with_ok (Tab.with_ok (Tab.with_ok Tab.none_ok trim_ok) valid_ok) order_ok) plus_ok) minus_ok) times_ok) quot_ok) common_ok) left_ok) right_ok) len64_ok
def sSize : List PVal → Option PVal
 | [.lst xs] => match decN xs with | some a => some (.int .i64 (size a)) | none => none
 | _ => none
theorem sSize_num {a : Nat} (ha : len a ≤ 100000) : sSize [.lst ((limbs a).map u64)] = some (.int .i64 (size a)) := by
 simp only [sSize, decN_num ha]
theorem size_top {a x : Nat} (h : a ≠ 0) (hx : (limbs a)[len a - 1]? = some x) : size a = 64 * (len a - 1) + size x := by
 have hl : 1 ≤ len a := by have : len a ≠ 0 := fun e => h (len_eq_zero.1 e); omega
 have la : (limbs a).length = len a := rfl
 have hx0 : x ≠ 0 := by
  have := (canon_limbs a).2
  rw [List.getLast?_eq_getElem?, la, hx] at this
  exact fun e => this (by rw [e])
 have h1 := size_limbs ((wf_limbs a).take (len a - 1)) hx0
 rw [← take_get hx, show len a - 1 + 1 = len a by omega, List.take_of_length_le (by omega), val_limbs, List.length_take, Nat.min_eq_left (by omega)] at h1
 exact h1
def ofL (n : Int) : List Nat := if n ≤ 0 then [] else [(IntKind.u64.wrap n).toNat]
def sOf : List PVal → Option PVal
 | [.int .i64 n] => some (lstP (ofL n))
 | _ => none
theorem wrap_nonneg (n : Int) : ((IntKind.u64.wrap n).toNat : Int) = IntKind.u64.wrap n := by
 rw [IntKind.wrap_u64]; omega
theorem of_ok : FnOk Tryz.prog base 113 (pureS sOf) := by
 refine pure_of_vc hmix Tnat_ok globNone low113 fun args z hs hf => ?_
 unfold sOf at hs
 split at hs
 case h_2 => cases hs
 rename_i n
 cases hs
 refine ⟨by simp [lf113], ?_⟩
 have hw := wrap_nonneg n
 by_cases h : n ≤ 0
 ·simp [lf113, h, ofL, lstP]
 ·simp [-Int.ofNat_toNat, lf113, h, hw, ofL, lstP, fillS]
end Go.Proofs.YtgbjjikaenlkmaaGreat

/-
 nat: the functions called from outside, at numbers.
-/
namespace Go.Proofs.YtgbjjikaenlkmaaGreat
open Go Go.Abs Go.Limbs
theorem okL_limbs {a : Nat} (h : len a ≤ 64) : okL (limbs a) = true := by rw [okL_num]; exact decide_eq_true h
end Go.Proofs.YtgbjjikaenlkmaaGreat
