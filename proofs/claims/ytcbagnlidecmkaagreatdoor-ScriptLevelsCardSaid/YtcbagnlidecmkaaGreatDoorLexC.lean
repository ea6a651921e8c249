/-
  What the reference's words and lex.Quote compute. No conditions beyond the lemmas' own hypotheses.
-/
import Derived.Test.YtcbagnlidecmkaaGreatDoorLexP
import Derived.Test.YtcbagnlidecmkaaGreatDoorLexA
import Derived.Test.YtcbagnlidecmkaaGreatDoorLexB
set_option linter.unusedSimpArgs false
set_option linter.unnecessarySimpa false
set_option linter.unusedVariables false
set_option linter.constructorNameAsVariable false

/-
 lex: the reference's word: its loops.
-/
namespace Go.Proofs.YtcbagnlidecmkaaGreatDoor
open Go Go.Abs Go.Lex
variable {base : Prot}
set_option maxRecDepth 20000
attribute [local simp] pureS touchV freezeL fuel shiftV
def Tz : Tab := ((Tab.none.with 64 (pureS (sByte isPrints))).with 65 (pureS (sByte isSign))).with 66 (pureS (sByte isDigit))
theorem Tz_ok : TabOk Tryz.prog base Tz := Tab.with_ok (Tab.with_ok (Tab.with_ok Tab.none_ok rprints_ok) rsign_ok) rdigit_ok
theorem Tz_mu (f : FuncId) (a : List AVal) (H : Heap) : Tz.mu f a H = none := (rfl)
theorem Tz_25 : Tz.fn 64 = pureS (sByte isPrints) := (rfl)
theorem Tz_28 : Tz.fn 65 = pureS (sByte isSign) := (rfl)
theorem Tz_29 : Tz.fn 66 = pureS (sByte isDigit) := (rfl)
attribute [local simp] Tz_mu Tz_25 Tz_28 Tz_29
theorem getE {α : Type} {l : List α} {i : Nat} {c : α} (h : l[i]? = some c) : ∀ hi, l[i]'hi = c := fun hi => by
 rw [List.getElem?_eq_getElem hi] at h; exact Option.some.inj h
def Low (fr fr' : AFr) : Prop := ∀ t, t < 11 → t ≠ 9 → fr' t = fr t
theorem Low.refl (fr : AFr) : Low fr fr := fun _ _ _ => rfl
theorem Low.upd {fr fr' : AFr} (h : Low fr fr') {d : Nat} {v : AVal} (hd : 11 ≤ d ∨ d = 9) : Low fr (upd fr' d v) := fun t h1 h2 => by
 show (if t = d then v else fr' t) = fr t
 rw [if_neg (by omega)]
 exact h t h1 h2
theorem scan2 {bs : List UInt8} (hb : bs.length ≤ 65536) {Q : LExit → AFr → Heap → Prop} {fr : AFr} {H : Heap} {j n : Nat} (h0 : fr 0 = .p (.lst (bs.map b8))) (h9 : fr 9 = .p (.int .i64 j)) (hj : j ≤ bs.length) (hn : j + ((bs.drop j).takeWhile isSign).length = n)
  (hq : ∀ fr', Low fr fr' → fr' 9 = .p (.int .i64 n) → Q .normal fr' H) : vc Tz lf43_B2 Q fr H := by
 simp only [lf43_B2, vc_block]
 refine loop_ind (fun fr1 H1 => ∃ i : Nat, H1 = H ∧ i ≤ bs.length ∧ Low fr fr1 ∧ fr1 9 = .p (.int .i64 i) ∧ i + ((bs.drop i).takeWhile isSign).length = n) (fun fr1 _ => bs.length - ivar (fr1 9)) ⟨j, rfl, hj, Low.refl _, h9, hn⟩ ?_
 rintro fr1 H1 ⟨i, rfl, hi, hl, h9, hin⟩
 have h0' : fr1 0 = .p (.lst (bs.map b8)) := by rw [hl 0 (by omega) (by omega)]; exact h0
 cases hr : bs.drop i with
 | nil =>
  have hnl := drop_nil_at hr
  have hlt : ¬ i < bs.length := by omega
  rw [hr] at hin
  have hin' : i = n := by simpa using hin
  simp [h0', h9, hlt]
  refine hq _ ?_ ?_
  ·repeat (first | exact hl | refine Low.upd ?_ (by decide))
  ·simp [h9, hin']
 | cons c r =>
  obtain ⟨hlt, hge, hdn, hlen⟩ := drop_cons_at hr
  have hgi := getE hge
  rw [hr, List.takeWhile_cons] at hin
  cases hc : isSign c with
  | false =>
   rw [hc] at hin
   have hin' : i = n := by simpa using hin
   simp [h0', h9, hlt, hgi, sByte_b8, hc]
   refine hq _ ?_ ?_
   ·repeat (first | exact hl | refine Low.upd ?_ (by decide))
   ·simp [h9, hin']
  | true =>
   rw [hc] at hin
   simp [h0', h9, hlt, hgi, sByte_b8, hc, wrap_succ (i := i) (by omega), ivar]
   refine ⟨⟨i + 1, by omega, (by repeat (first | exact hl | refine Low.upd ?_ (by decide))), by simp, ?_⟩, by omega⟩
   rw [hdn]
   simp at hin
   omega
theorem scan3 {bs : List UInt8} (hb : bs.length ≤ 65536) {Q : LExit → AFr → Heap → Prop} {fr : AFr} {H : Heap} {j n : Nat} (h0 : fr 0 = .p (.lst (bs.map b8))) (h9 : fr 9 = .p (.int .i64 j)) (hj : j ≤ bs.length) (hn : j + ((bs.drop j).takeWhile isDigit).length = n)
  (hq : ∀ fr', Low fr fr' → fr' 9 = .p (.int .i64 n) → Q .normal fr' H) : vc Tz lf43_B3 Q fr H := by
 simp only [lf43_B3, vc_block]
 refine loop_ind (fun fr1 H1 => ∃ i : Nat, H1 = H ∧ i ≤ bs.length ∧ Low fr fr1 ∧ fr1 9 = .p (.int .i64 i) ∧ i + ((bs.drop i).takeWhile isDigit).length = n) (fun fr1 _ => bs.length - ivar (fr1 9)) ⟨j, rfl, hj, Low.refl _, h9, hn⟩ ?_
 rintro fr1 H1 ⟨i, rfl, hi, hl, h9, hin⟩
 have h0' : fr1 0 = .p (.lst (bs.map b8)) := by rw [hl 0 (by omega) (by omega)]; exact h0
 cases hr : bs.drop i with
 | nil =>
  have hnl := drop_nil_at hr
  have hlt : ¬ i < bs.length := by omega
  rw [hr] at hin
  have hin' : i = n := by simpa using hin
  simp [h0', h9, hlt]
  refine hq _ ?_ ?_
  ·repeat (first | exact hl | refine Low.upd ?_ (by decide))
  ·simp [h9, hin']
 | cons c r =>
  obtain ⟨hlt, hge, hdn, hlen⟩ := drop_cons_at hr
  have hgi := getE hge
  rw [hr, List.takeWhile_cons] at hin
  cases hc : isDigit c with
  | false =>
   rw [hc] at hin
   have hin' : i = n := by simpa using hin
   simp [h0', h9, hlt, hgi, sByte_b8, hc]
   refine hq _ ?_ ?_
   ·repeat (first | exact hl | refine Low.upd ?_ (by decide))
   ·simp [h9, hin']
  | true =>
   rw [hc] at hin
   simp [h0', h9, hlt, hgi, sByte_b8, hc, wrap_succ (i := i) (by omega), ivar]
   refine ⟨⟨i + 1, by omega, (by repeat (first | exact hl | refine Low.upd ?_ (by decide))), by simp, ?_⟩, by omega⟩
   rw [hdn]
   simp at hin
   omega
theorem scan4 {bs : List UInt8} (hb : bs.length ≤ 65536) {Q : LExit → AFr → Heap → Prop} {fr : AFr} {H : Heap} {j n : Nat} (h0 : fr 0 = .p (.lst (bs.map b8))) (h9 : fr 9 = .p (.int .i64 j)) (hj : j ≤ bs.length) (hn : j + ((bs.drop j).takeWhile isDigit).length = n)
  (hq : ∀ fr', Low fr fr' → fr' 9 = .p (.int .i64 n) → Q .normal fr' H) : vc Tz lf43_B4 Q fr H := by
 simp only [lf43_B4, vc_block]
 refine loop_ind (fun fr1 H1 => ∃ i : Nat, H1 = H ∧ i ≤ bs.length ∧ Low fr fr1 ∧ fr1 9 = .p (.int .i64 i) ∧ i + ((bs.drop i).takeWhile isDigit).length = n) (fun fr1 _ => bs.length - ivar (fr1 9)) ⟨j, rfl, hj, Low.refl _, h9, hn⟩ ?_
 rintro fr1 H1 ⟨i, rfl, hi, hl, h9, hin⟩
 have h0' : fr1 0 = .p (.lst (bs.map b8)) := by rw [hl 0 (by omega) (by omega)]; exact h0
 cases hr : bs.drop i with
 | nil =>
  have hnl := drop_nil_at hr
  have hlt : ¬ i < bs.length := by omega
  rw [hr] at hin
  have hin' : i = n := by simpa using hin
  simp [h0', h9, hlt]
  refine hq _ ?_ ?_
  ·repeat (first | exact hl | refine Low.upd ?_ (by decide))
  ·simp [h9, hin']
 | cons c r =>
  obtain ⟨hlt, hge, hdn, hlen⟩ := drop_cons_at hr
  have hgi := getE hge
  rw [hr, List.takeWhile_cons] at hin
  cases hc : isDigit c with
  | false =>
   rw [hc] at hin
   have hin' : i = n := by simpa using hin
   simp [h0', h9, hlt, hgi, sByte_b8, hc]
   refine hq _ ?_ ?_
   ·repeat (first | exact hl | refine Low.upd ?_ (by decide))
   ·simp [h9, hin']
  | true =>
   rw [hc] at hin
   simp [h0', h9, hlt, hgi, sByte_b8, hc, wrap_succ (i := i) (by omega), ivar]
   refine ⟨⟨i + 1, by omega, (by repeat (first | exact hl | refine Low.upd ?_ (by decide))), by simp, ?_⟩, by omega⟩
   rw [hdn]
   simp at hin
   omega
theorem scan5 {bs : List UInt8} (hb : bs.length ≤ 65536) {Q : LExit → AFr → Heap → Prop} {fr : AFr} {H : Heap} {j n : Nat} (h0 : fr 0 = .p (.lst (bs.map b8))) (h9 : fr 9 = .p (.int .i64 j)) (hj : j ≤ bs.length) (hn : j + ((bs.drop j).takeWhile isSign).length = n)
  (hq : ∀ fr', Low fr fr' → fr' 9 = .p (.int .i64 n) → Q .normal fr' H) : vc Tz lf43_B5 Q fr H := by
 simp only [lf43_B5, vc_block]
 refine loop_ind (fun fr1 H1 => ∃ i : Nat, H1 = H ∧ i ≤ bs.length ∧ Low fr fr1 ∧ fr1 9 = .p (.int .i64 i) ∧ i + ((bs.drop i).takeWhile isSign).length = n) (fun fr1 _ => bs.length - ivar (fr1 9)) ⟨j, rfl, hj, Low.refl _, h9, hn⟩ ?_
 rintro fr1 H1 ⟨i, rfl, hi, hl, h9, hin⟩
 have h0' : fr1 0 = .p (.lst (bs.map b8)) := by rw [hl 0 (by omega) (by omega)]; exact h0
 cases hr : bs.drop i with
 | nil =>
  have hnl := drop_nil_at hr
  have hlt : ¬ i < bs.length := by omega
  rw [hr] at hin
  have hin' : i = n := by simpa using hin
  simp [h0', h9, hlt]
  refine hq _ ?_ ?_
  ·repeat (first | exact hl | refine Low.upd ?_ (by decide))
  ·simp [h9, hin']
 | cons c r =>
  obtain ⟨hlt, hge, hdn, hlen⟩ := drop_cons_at hr
  have hgi := getE hge
  rw [hr, List.takeWhile_cons] at hin
  cases hc : isSign c with
  | false =>
   rw [hc] at hin
   have hin' : i = n := by simpa using hin
   simp [h0', h9, hlt, hgi, sByte_b8, hc]
   refine hq _ ?_ ?_
   ·repeat (first | exact hl | refine Low.upd ?_ (by decide))
   ·simp [h9, hin']
  | true =>
   rw [hc] at hin
   simp [h0', h9, hlt, hgi, sByte_b8, hc, wrap_succ (i := i) (by omega), ivar]
   refine ⟨⟨i + 1, by omega, (by repeat (first | exact hl | refine Low.upd ?_ (by decide))), by simp, ?_⟩, by omega⟩
   rw [hdn]
   simp at hin
   omega
end Go.Proofs.YtcbagnlidecmkaaGreatDoor

/-
 lex: the reference's word: texts and bars.
-/
namespace Go.Proofs.YtcbagnlidecmkaaGreatDoor
open Go Go.Abs Go.Lex
variable {base : Prot}
set_option maxRecDepth 20000
attribute [local simp] pureS touchV freezeL fuel shiftV Tz_mu Tz_25 Tz_28 Tz_29
def wE (kd : Int) (t : List UInt8) (i : Int) : Ent := ⟨3, 0, false, [.p (.agg [.int .i64 kd, .str t, .int .i64 i])], 27⟩
theorem bars_loop {bs : List UInt8} (hb : bs.length ≤ 65536) {Q : LExit → AFr → Heap → Prop} {fr : AFr} {w0 : Ent} {a : Int} {j n : Nat} (h0 : fr 0 = .p (.lst (bs.map b8))) (hw0 : w0 = wE 0 [] 0) (h4 : fr 4 = .optr 0 0 0 0) (h8 : fr 8 = .optr 1 0 0 0)
  (h9 : fr 9 = .p (.int .i64 j)) (hj : j ≤ bs.length) (hn : j + ((bs.drop j).takeWhile isInBars).length = n)
  (hq : (bs.drop n = [] ∨ ∃ r, bs.drop n = 124 :: r) → ∀ fr', Low fr fr' → fr' 9 = .p (.int .i64 n) → Q .normal fr' [w0, wE 3 [] a])
  (hr : ∀ c r, bs.drop n = c :: r → c ≠ 124 → ∀ fr', fr' 4 = .optr 0 0 0 0 → fr' 5 = .p (.int .i64 n) → fr' 6 = .p (.bool false) → Q .ret fr' [wE 3 [] a, wE 3 [] a]) : vc Tz lf43_B1 Q fr [w0, wE 3 [] a] := by
 subst hw0
 simp only [lf43_B1, vc_block]
 refine loop_ind (fun fr1 H1 => ∃ i : Nat, H1 = [wE 0 [] 0, wE 3 [] a] ∧ i ≤ bs.length ∧ Low fr fr1 ∧ fr1 9 = .p (.int .i64 i) ∧ i + ((bs.drop i).takeWhile isInBars).length = n) (fun fr1 _ => bs.length - ivar (fr1 9)) ⟨j, rfl, hj, Low.refl _, h9, hn⟩ ?_
 rintro fr1 H1 ⟨i, rfl, hi, hl, h9, hin⟩
 have h0' : fr1 0 = .p (.lst (bs.map b8)) := by rw [hl 0 (by omega) (by omega)]; exact h0
 have h4' : fr1 4 = .optr 0 0 0 0 := by rw [hl 4 (by omega) (by omega)]; exact h4
 have h8' : fr1 8 = .optr 1 0 0 0 := by rw [hl 8 (by omega) (by omega)]; exact h8
 cases hd : bs.drop i with
 | nil =>
  have hnl := drop_nil_at hd
  have hlt : ¬ i < bs.length := by omega
  rw [hd] at hin
  have hin' : i = n := by simpa using hin
  simp [h0', h9, hlt]
  refine hq (.inl (by rw [← hin']; exact hd)) _ ?_ ?_
  ·repeat (first | exact hl | refine Low.upd ?_ (by decide))
  ·simp [h9, hin']
 | cons c r =>
  obtain ⟨hlt, hge, hdn, hlen⟩ := drop_cons_at hd
  have hgi := getE hge
  rw [hd, List.takeWhile_cons] at hin
  have e124 : ((c.toNat : Int) != 124) = (c != 124) := by rw [show (124 : Int) = ((124 : UInt8).toNat : Int) from rfl, u8_bne]
  have e92 : ((c.toNat : Int) != 92) = (c != 92) := by rw [show (92 : Int) = ((92 : UInt8).toNat : Int) from rfl, u8_bne]
  have e92' : ((c.toNat : Int) == 92) = (c == 92) := by rw [show (92 : Int) = ((92 : UInt8).toNat : Int) from rfl, u8_beq]
  have hbars : isInBars c = (c != 124 && c != 92 && isInner c) := by unfold isInBars; rw [e124, e92]
  cases hc : isInBars c with
  | false =>
   rw [hc] at hin
   have hin' : i = n := by simpa using hin
   rw [hin'] at hd
   cases h124 : (c != 124) with
   | false =>
    have : c = 124 := by simpa using h124
    subst this
    simp [h0', h9, hlt, hgi]
    refine hq (.inr ⟨r, hd⟩) _ ?_ ?_
    ·repeat (first | exact hl | refine Low.upd ?_ (by decide))
    ·simp [h9, hin']
   | true =>
    rw [hbars, h124] at hc
    have hne : c ≠ 124 := by simpa using h124
    unfold wE at hr ⊢
    cases hin2 : isInner c with
    | false =>
     simp [h0', h4', h8', h9, hlt, hgi, e124, h124, sByte_b8, prints_inner, hin2]
     refine hr c r hd hne _ ?_ ?_ ?_ <;> simp [h4', h9, hin']
    | true =>
     rw [hin2] at hc
     have h92 : (c == 92) = true := by simpa [bne] using hc
     have h92' : c = 92 := by simpa using h92
     subst h92'
     simp [h0', h4', h8', h9, hlt, hgi, sByte_b8, prints_inner, hin2]
     refine hr 92 r hd hne _ ?_ ?_ ?_ <;> simp [h4', h9, hin']
  | true =>
   rw [hc] at hin
   rw [hbars] at hc
   simp only [Bool.and_eq_true] at hc
   obtain ⟨⟨h124, h92⟩, hin2⟩ := hc
   have h92' : (c == 92) = false := by simpa [bne] using h92
   simp [h0', h9, hlt, hgi, e124, h124, e92', h92', sByte_b8, prints_inner, hin2, wrap_succ (i := i) (by omega), ivar]
   refine ⟨⟨i + 1, by omega, (by repeat (first | exact hl | refine Low.upd ?_ (by decide))), by simp, ?_⟩, by omega⟩
   rw [hdn]
   simp at hin
   omega
def textX : List UInt8 → List UInt8 × Bool × List UInt8
 | [] => ([], false, [])
 | [c] => if c = 34 then ([], true, []) else if isInner c = true then ([c], false, []) else ([], false, [c])
 | c :: d :: r => if c = 34 then (if d = 34 then (34 :: (textX r).1, (textX r).2) else ([], true, d :: r))
  else if isInner c = true then (c :: (textX (d :: r)).1, (textX (d :: r)).2) else ([], false, c :: d :: r)
theorem textX_S : ∀ l : List UInt8, textS l = (if (textX l).2.1 = true then some (textX l).1 else none, (textX l).2.2)
 | [] => by simp [textS, textX]
 | [c] => by
  simp only [textS, textX]
  split
  ·simp
  ·split <;> simp
 | c :: d :: r => by
  have h1 := textX_S r
  have h2 := textX_S (d :: r)
  simp only [textS, textX]
  split
  ·split
   ·rw [h1]
    cases (textX r).2.1 <;> simp
   ·simp
  ·split
   ·rw [h2]
    cases (textX (d :: r)).2.1 <;> simp
   ·simp
theorem textX_in {c : UInt8} (h1 : c ≠ 34) (h2 : isInner c = true) (l : List UInt8) : textX (c :: l) = (c :: (textX l).1, (textX l).2) := by
 cases l with
 | nil => simp [textX, h1, h2]
 | cons d r => rw [textX, if_neg h1, if_pos h2]
theorem textX_out {c : UInt8} (h1 : c ≠ 34) (h2 : isInner c = false) (l : List UInt8) : textX (c :: l) = ([], false, c :: l) := by
 cases l with
 | nil => simp [textX, h1, h2]
 | cons d r => rw [textX, if_neg h1, if_neg (by simp [h2])]
theorem text_loop {bs : List UInt8} (hb : bs.length ≤ 65536) {Q : LExit → AFr → Heap → Prop} {fr : AFr} {a : Int} {j : Nat} (h0 : fr 0 = .p (.lst (bs.map b8))) (h4 : fr 4 = .optr 0 0 0 0) (h8 : fr 8 = .optr 1 0 0 0)
  (h9 : fr 9 = .p (.int .i64 j)) (hj : j ≤ bs.length)
  (hq : ∀ t, textX (bs.drop j) = (t, false, []) → ∀ fr', Low fr fr' → fr' 9 = .p (.int .i64 bs.length) → Q .normal fr' [wE 0 [] 0, wE 7 t a])
  (hr : ∀ t ok r, textX (bs.drop j) = (t, ok, r) → ∀ fr', fr' 4 = .optr 0 0 0 0 → fr' 5 = .p (.int .i64 ((bs.length - r.length : Nat) : Int)) → fr' 6 = .p (.bool ok) → Q .ret fr' [wE 7 t a, wE 7 t a]) :
  vc Tz lf43_B0 Q fr [wE 0 [] 0, wE 7 [] a] := by
 simp only [lf43_B0, vc_block]
 refine loop_ind (fun fr1 H1 => ∃ (i : Nat) (t : List UInt8), H1 = [wE 0 [] 0, wE 7 t a] ∧ i ≤ bs.length ∧ t.length ≤ i ∧ Low fr fr1 ∧ fr1 9 = .p (.int .i64 i) ∧ textX (bs.drop j) = (t ++ (textX (bs.drop i)).1, (textX (bs.drop i)).2)) (fun fr1 _ => bs.length - ivar (fr1 9))
  ⟨j, [], rfl, hj, by simp, Low.refl _, h9, by simp⟩ ?_
 rintro fr1 H1 ⟨i, t, rfl, hi, hti, hl, h9, hin⟩
 have h0' : fr1 0 = .p (.lst (bs.map b8)) := by rw [hl 0 (by omega) (by omega)]; exact h0
 have h4' : fr1 4 = .optr 0 0 0 0 := by rw [hl 4 (by omega) (by omega)]; exact h4
 have h8' : fr1 8 = .optr 1 0 0 0 := by rw [hl 8 (by omega) (by omega)]; exact h8
 have hm : maxLen = 9223372036854775807 := rfl
 have htm : t.length + 1 ≤ maxLen := by omega
 cases hd : bs.drop i with
 | nil =>
  have hnl := drop_nil_at hd
  have hlt : ¬ i < bs.length := by omega
  have hil : i = bs.length := by omega
  rw [hd] at hin
  simp [h0', h9, hlt]
  refine hq t (by rw [hin]; simp [textX]) _ ?_ ?_
  ·repeat (first | exact hl | refine Low.upd ?_ (by decide))
  ·simp [h9, hil]
 | cons c r =>
  obtain ⟨hlt, hge, hdn, hlen⟩ := drop_cons_at hd
  have hgi := getE hge
  rw [hd] at hin
  have e34 := u8_bne34 c
  have ht1 : ((i : Int) + 1).toNat = i + 1 := by omega
  by_cases h34 : c = 34
  ·subst h34
   cases r with
   | nil =>
    have hnl2 : (bs.length : Int) ≤ (i : Int) + 1 := by simp at hlen; omega
    have hil : i + 1 = bs.length := by simp at hlen; omega
    have hilI : (i : Int) + 1 = bs.length := by omega
    unfold wE at hr ⊢
    simp [h0', h4', h8', h9, hlt, hgi, wrap_succ (i := i) (by omega), hnl2]
    refine hr t true [] (by rw [hin]; simp [textX]) _ ?_ ?_ ?_ <;> simp [h4', hilI]
   | cons d r' =>
    obtain ⟨hlt2, hge2, hdn2, hlen2⟩ := drop_cons_at hdn
    have hgi2 := getE hge2
    have hnl2 : ¬ (bs.length : Int) ≤ (i : Int) + 1 := by omega
    have hlt2I : (i : Int) + 1 < bs.length := by omega
    have hz : (0 : Int) ≤ (i : Int) + 1 := by omega
    have hw2 : IntKind.i64.wrap ((i : Int) + 2) = ((i + 2 : Nat) : Int) := by rw [IntWalk.i64_in _ (by omega)]; omega
    by_cases hd34 : d = 34
    ·subst hd34
     unfold wE
     simp [h0', h4', h8', h9, hlt, hgi, wrap_succ (i := i) (by omega), hnl2, ht1, hz, hlt2, hgi2, hw2, binS, htm, ivar]
     refine ⟨⟨i + 2, by omega, by simp; omega, (by repeat (first | exact hl | refine Low.upd ?_ (by decide))), by simp, ?_⟩, by omega⟩
     rw [hin, show i + 2 = i + 1 + 1 from rfl, hdn2]
     simp [textX]
    ·have e34' := u8_bne34 d
     have hd34' : (d != 34) = true := by simpa using hd34
     have hil : bs.length - (d :: r').length = i + 1 := by simp at hlen ⊢; omega
     unfold wE at hr ⊢
     simp [h0', h4', h8', h9, hlt, hgi, wrap_succ (i := i) (by omega), hnl2, ht1, hz, hlt2, hgi2, e34', hd34']
     refine hr t true (d :: r') (by rw [hin]; simp [textX, hd34]) _ ?_ ?_ ?_
     ·simp [h4']
     ·rw [hil]; simp
     ·simp
  ·have h34' : (c != 34) = true := by simpa using h34
   cases hc : isInner c with
   | false =>
    have hil : bs.length - (c :: r).length = i := by simp; omega
    unfold wE at hr ⊢
    simp [h0', h4', h8', h9, hlt, hgi, e34, h34', sByte_b8, prints_inner, hc]
    refine hr t false (c :: r) (by rw [hin, textX_out h34 hc]; simp) _ ?_ ?_ ?_
    ·simp [h4']
    ·rw [hil]; simp [h9]
    ·simp
   | true =>
    have hsl : (List.drop i (List.take (i + 1) (bs.map b8))) = [b8 c] := by
     rw [← List.map_take, ← List.map_drop, List.drop_take]
     rw [hd]
     simp
    have hlt3 : i + 1 ≤ bs.length := by omega
    have hi1 : (i : Int) ≤ (i : Int) + 1 := by omega
    have hltI : (i : Int) + 1 ≤ bs.length := by omega
    unfold wE
    simp [h0', h4', h8', h9, hlt, hgi, e34, h34', sByte_b8, prints_inner, hc]
    rw [vc_regionW]
    refine ⟨[], ?_⟩
    simp [h0', h4', h8', h9, wrap_succ (i := i) (by omega), hi1, hltI, hlt3, ht1, sizeOk_map, hsl, bytesOf, binS, htm, ivar]
    refine ⟨⟨i + 1, by omega, by omega, (by repeat (first | exact hl | refine Low.upd ?_ (by decide))), by simp, ?_⟩, by omega⟩
    rw [hin, hdn, textX_in h34 hc]
end Go.Proofs.YtcbagnlidecmkaaGreatDoor

/-
 lex: the reference's word.
-/
namespace Go.Proofs.YtcbagnlidecmkaaGreatDoor
open Go Go.Abs Go.Lex
variable {base : Prot}
set_option maxRecDepth 20000
attribute [local simp] pureS touchV freezeL fuel shiftV Tz_mu Tz_25 Tz_28 Tz_29
def rwS : List UInt8 → (Int × List UInt8 × Bool) × List UInt8
 | [] => ((0, [], false), [])
 | c :: r => if c = 40 then ((1, [], true), r)
  else if c = 41 then ((2, [], true), r)
  else if c = 34 then ((7, (textX r).1, (textX r).2.1), (textX r).2.2)
  else if c = 124 then (match r.dropWhile isInBars with
   | [] => ((3, [], false), [])
   | d :: q => if d = 124 then ((3, r.takeWhile isInBars, true), q) else ((3, [], false), d :: q))
  else if c = 58 then ((4, r.takeWhile isSign, !(r.takeWhile isSign == [])), r.dropWhile isSign)
  else if isDigit c = true then ansNum (numS (c :: r))
  else if isSign c = true then ((3, (c :: r).takeWhile isSign, true), (c :: r).dropWhile isSign)
  else ((0, [], false), r)
where ansNum (p : PVal × List UInt8) : (Int × List UInt8 × Bool) × List UInt8 := (ansK p.1, p.2)
theorem rwS_word (l : List UInt8) : (rwS l).1.2.2 = (ansK (wordS l).1).2.2 ∧ ((rwS l).1.2.2 = true → rwS l = (ansK (wordS l).1, (wordS l).2)) := by
 cases l with
 | nil => simp [rwS, wordS, ansK, wordV]
 | cons c r =>
  simp only [rwS, wordS]
  by_cases h40 : c = 40
  ·simp [h40, ansK, wordV]
  by_cases h41 : c = 41
  ·simp [h41, ansK, wordV]
  by_cases h34 : c = 34
  ·have := textX_S r
   subst h34
   simp only [texS, List.drop_succ_cons, List.drop_zero, if_true]
   rw [if_neg h40, if_neg h41, if_neg h40, if_neg h41]
   rw [this]
   cases h : (textX r).2.1 <;> simp [ansK, wordV]
  by_cases h124 : c = 124
  ·subst h124
   simp only [quoS, List.drop_succ_cons, List.drop_zero, if_true]
   rw [if_neg h40, if_neg h41, if_neg h34, if_neg h40, if_neg h41, if_neg h34]
   cases hd : r.dropWhile isInBars with
   | nil => simp [ansK, wordV]
   | cons d q =>
    simp only
    split <;> simp [ansK, wordV]
  by_cases h58 : c = 58
  ·subst h58
   rw [if_neg h40, if_neg h41, if_neg h34, if_neg h124, if_neg h40, if_neg h41, if_neg h34, if_neg h124]
   simp [ansK, wordV]
  rw [if_neg h40, if_neg h41, if_neg h34, if_neg h124, if_neg h58, if_neg h40, if_neg h41, if_neg h34, if_neg h124, if_neg h58]
  cases hdc : isDigit c with
  | true => simp [rwS.ansNum]
  | false =>
   cases hsc : isSign c with
   | true => simp [ansK, wordV, List.takeWhile_cons, hsc]
   | false => simp [ansK, wordV, List.takeWhile_cons, List.dropWhile_cons, hsc]
def sRW : List PVal → Option PVal
 | [.lst es, .int .i64 n] => match decB es with
  | some bs => if 0 ≤ n ∧ n.toNat < bs.length ∧ bs.length ≤ 65536 then
    some (.tup [wordV (rwS (bs.drop n.toNat)).1.1 (rwS (bs.drop n.toNat)).1.2.1 n, .int .i64 ((bs.length - (rwS (bs.drop n.toNat)).2.length : Nat) : Int), .bool (rwS (bs.drop n.toNat)).1.2.2]) else none
  | none => none
 | _ => none
theorem part_tw {bs : List UInt8} {p : UInt8 → Bool} {i n : Nat} (h : i + ((bs.drop i).takeWhile p).length = n) : (bs.take n).drop i = (bs.drop i).takeWhile p := by
 have h1 : (bs.drop i).takeWhile p = (bs.drop i).take ((bs.drop i).takeWhile p).length := List.prefix_iff_eq_take.1 (List.takeWhile_prefix p)
 rw [List.drop_take, h1]
 congr 1
 omega
def digPart : LCode := match lf43.body with
 | .seq _ (.seq _ (.seq _ (.seq _ (.seq (.block _ (.seq _ (.cond _ _ (.seq _ (.cond _ _ (.seq _ (.cond _ _ (.seq _ (.cond _ _ (.seq _ (.cond _ d _))))))))))) _)))) => d
 | _ => .bad
def rnumRest : LCode := match digPart with | .seq _ (.seq _ r) => r | _ => .bad
def rnumEnd : LCode := match rnumRest with | .seq _ (.seq _ r) => r | _ => .bad
def rnumPeek : LCode := match rnumRest with | .seq _ (.seq (.seq p _) _) => p | _ => .bad
def rnumFrac : LCode := match rnumRest with | .seq _ (.seq (.seq _ (.cond _ p _)) _) => p | _ => .bad
theorem rnumRest_eq : rnumRest = .seq (.region [⟨(some 184), none, .mov (.tmp 9)⟩, ⟨(some 10), none, .mov (.tmp 184)⟩]) (.seq (.seq rnumPeek (.cond (.tmp 204) rnumFrac .skip)) rnumEnd) := rfl
theorem rnum_end {bs : List UInt8} (hb : bs.length ≤ 65536) {Q : LExit → AFr → Heap → Prop} {fr : AFr} {i n m : Nat} {c : UInt8} {kd : Int} {s : List UInt8} (h0 : fr 0 = .p (.lst (bs.map b8))) (h1 : fr 1 = .p (.int .i64 i)) (h4 : fr 4 = .optr 0 0 0 0) (h7 : fr 7 = .p (.int .u8 c.toNat))
  (h8 : fr 8 = .optr 1 0 0 0) (h9 : fr 9 = .p (.int .i64 m)) (h10 : fr 10 = .p (.int .i64 n)) (hi : i ≤ m) (hm : m ≤ bs.length) (h3 : List.drop i (List.take m (bs.map b8)) = s.map b8)
  (hq : ∀ fr', fr' 4 = .optr 0 0 0 0 → fr' 5 = .p (.int .i64 m) → fr' 6 = .p (.bool ((((c.toNat : Int) != 48) || decide (n = i + 1)) && endOk (bs.drop m))) → Q .ret fr' [wE kd s i, wE kd s i]) :
  vc Tz rnumEnd Q fr [wE 0 [] 0, wE kd [] i] := by
 have hi1 : (i : Int) ≤ m := by omega
 have hmI : (m : Int) ≤ bs.length := by omega
 have hw1 := wrap_succ (i := i) (by omega)
 unfold wE at hq ⊢
 simp only [rnumEnd, rnumRest, digPart, lf43]
 simp [h0, h1, h8, h9, hi1, hm, sizeOk_map, h3, bytesOf_map2]
 rw [vc_regionW]
 refine ⟨[], ?_⟩
 -- the second half, the first being decided
 have tail : ∀ (b1 : Bool), (((c.toNat : Int) != 48) || decide (n = i + 1)) = b1 → (b1 = true → (bs.drop m = [] ∨ ∃ e q, bs.drop m = e :: q)) := fun b1 _ _ => by
  cases bs.drop m with
  | nil => exact .inl rfl
  | cons e q => exact .inr ⟨e, q, rfl⟩
 clear tail
 cases hA : ((c.toNat : Int) != 48) with
 | true =>
  cases hd : bs.drop m with
  | nil =>
   have hnl := drop_nil_at hd
   rw [hd, hA] at hq
   simp [h0, h1, h4, h7, h8, h9, h10, hA, hnl]
   refine hq _ ?_ ?_ ?_ <;> simp [h4, h9, endOk]
  | cons e q =>
   obtain ⟨hlt, hge, _, _⟩ := drop_cons_at hd
   have hnl : ¬ bs.length ≤ m := by omega
   rw [hd, hA] at hq
   simp [h0, h1, h4, h7, h8, h9, h10, hA, hnl, hge, sByte_b8]
   refine hq _ ?_ ?_ ?_ <;> simp [h4, h9, endOk]
 | false =>
  by_cases hB : n = i + 1
  ·have hB2 : ((n : Int) == (i : Int) + 1) = true := by simp; omega
   cases hd : bs.drop m with
   | nil =>
    have hnl := drop_nil_at hd
    rw [hd, hA] at hq
    subst hB
    simp [h0, h1, h4, h7, h8, h9, h10, hA, hnl, hw1]
    refine hq _ ?_ ?_ ?_ <;> simp [h4, h9, endOk]
   | cons e q =>
    obtain ⟨hlt, hge, _, _⟩ := drop_cons_at hd
    have hnl : ¬ bs.length ≤ m := by omega
    rw [hd, hA] at hq
    subst hB
    simp [h0, h1, h4, h7, h8, h9, h10, hA, hnl, hge, sByte_b8, hw1]
    refine hq _ ?_ ?_ ?_ <;> simp [h4, h9, endOk]
  ·have hB2 : ((n : Int) == (i : Int) + 1) = false := by simp; omega
   rw [hA] at hq
   simp [h0, h1, h4, h7, h8, h9, h10, hA, hw1, hB2]
   refine hq _ ?_ ?_ ?_ <;> simp [h4, h9, hB]
theorem rnum_rest {bs : List UInt8} (hb : bs.length ≤ 65536) {Q : LExit → AFr → Heap → Prop} {fr : AFr} {i n : Nat} {c : UInt8} (h0 : fr 0 = .p (.lst (bs.map b8))) (h1 : fr 1 = .p (.int .i64 i)) (h4 : fr 4 = .optr 0 0 0 0) (h7 : fr 7 = .p (.int .u8 c.toNat))
  (h8 : fr 8 = .optr 1 0 0 0) (h9 : fr 9 = .p (.int .i64 n)) (hi : i + ((bs.drop i).takeWhile isDigit).length = n) (hn : n ≤ bs.length)
  (hc : ∃ d, (bs.drop i).takeWhile isDigit = c :: d)
  (hq : ∀ fr', fr' 4 = .optr 0 0 0 0 → fr' 5 = .p (.int .i64 ((bs.length - (numS (bs.drop i)).2.length : Nat) : Int)) → fr' 6 = .p (.bool (ansK (numS (bs.drop i)).1).2.2) →
   Q .ret fr' [wE (ansK (numS (bs.drop i)).1).1 (ansK (numS (bs.drop i)).1).2.1 i, wE (ansK (numS (bs.drop i)).1).1 (ansK (numS (bs.drop i)).1).2.1 i]) :
  vc Tz rnumRest Q fr [wE 0 [] 0, wE 5 [] i] := by
 obtain ⟨d', hcd⟩ := hc
 have hjn := drop_tw isDigit bs i
 rw [hi] at hjn
 have hpt := part_tw hi
 have hlen : d'.length + 1 = n - i := by rw [hcd] at hi; simp at hi; omega
 have hok : (((c.toNat : Int) != 48) || decide (n = i + 1)) = numOk (c :: d') := by
  unfold numOk
  have e48 : ((c.toNat : Int) != 48) = (c != 48) := by rw [show (48 : Int) = ((48 : UInt8).toNat : Int) from rfl, u8_bne]
  simp only [e48]
  by_cases h48 : c = 48
  ·subst h48
   cases d' with
   | nil =>
    have : n = i + 1 := by simp at hlen; omega
    simp [this]
   | cons x d' =>
    have : ¬ n = i + 1 := by simp at hlen; omega
    simp [this]
  ·have : (c == 48) = false := by simpa using h48
   simp [this, bne]
 rw [rnumRest_eq]
 have fin : ∀ (m : Nat) (kd : Int) (s : List UInt8) (fr1 : AFr), i ≤ m → m ≤ bs.length → (bs.take m).drop i = s → fr1 0 = .p (.lst (bs.map b8)) → fr1 1 = .p (.int .i64 i) → fr1 4 = .optr 0 0 0 0 → fr1 7 = .p (.int .u8 c.toNat) → fr1 8 = .optr 1 0 0 0 → fr1 9 = .p (.int .i64 m) → fr1 10 = .p (.int .i64 n) →
   (∀ fr', fr' 4 = .optr 0 0 0 0 → fr' 5 = .p (.int .i64 m) → fr' 6 = .p (.bool (numOk (c :: d') && endOk (bs.drop m))) → Q .ret fr' [wE kd s i, wE kd s i]) → vc Tz rnumEnd Q fr1 [wE 0 [] 0, wE kd [] i] := by
  intro m kd s fr1 a1 a2 a3 a4 a5 a6 a7 a8 a9 a10 a11
  refine rnum_end hb a4 a5 a6 a7 a8 a9 a10 a1 a2 (by rw [← List.map_take, ← List.map_drop, a3]) fun fr' b1 b2 b3 => a11 fr' b1 b2 ?_
  rw [b3, hok]
 unfold numS at hq
 simp only at hq
 rw [hcd, ← hjn] at hq
 cases hr : bs.drop n with
 | nil =>
  have hnl := drop_nil_at hr
  have hn2 : ¬ (n : Int) + 1 < bs.length := by omega
  rw [hr] at hq
  have hnn : bs.length - ([] : List UInt8).length = n := by simp; omega
  simp only [hnn] at hq
  simp [rnumPeek, rnumRest, digPart, lf43, h0, h9, hn2, wrap_succ (i := n) (by omega)]
  refine fin n 5 (c :: d') _ (by omega) hn (by rw [hpt, hcd]) ?_ ?_ ?_ ?_ ?_ ?_ ?_ (fun fr' b1 b2 b3 => hq fr' b1 b2 (by rw [b3, hr]; rfl)) <;> simp [h0, h1, h4, h7, h8, h9]
 | cons a q =>
  obtain ⟨hlt, hge, hdn, hlen1⟩ := drop_cons_at hr
  rw [hr] at hq
  cases q with
  | nil =>
   have hn2 : ¬ (n : Int) + 1 < bs.length := by simp at hlen1; omega
   have hnn : bs.length - [a].length = n := by simp at hlen1 ⊢; omega
   simp only [hnn] at hq
   simp [rnumPeek, rnumRest, digPart, lf43, h0, h9, hn2, wrap_succ (i := n) (by omega)]
   refine fin n 5 (c :: d') _ (by omega) hn (by rw [hpt, hcd]) ?_ ?_ ?_ ?_ ?_ ?_ ?_ (fun fr' b1 b2 b3 => hq fr' b1 b2 (by rw [b3, hr]; rfl)) <;> simp [h0, h1, h4, h7, h8, h9]
  | cons b r =>
   obtain ⟨hlt1, hge1, hdn1, hlen2⟩ := drop_cons_at hdn
   have hn2 : (n : Int) + 1 < bs.length := by omega
   have ht1 : ((n : Int) + 1).toNat = n + 1 := by omega
   have hz : (0 : Int) ≤ (n : Int) + 1 := by omega
   have hnn : bs.length - (a :: b :: r).length = n := by simp at hlen1 ⊢; omega
   have ha46 : ((a.toNat : Int) == 46) = (a == 46) := by rw [show (46 : Int) = ((46 : UInt8).toNat : Int) from rfl, u8_beq]
   simp only at hq
   by_cases ha : a = 46
   ·subst ha
    cases hdb : isDigit b with
    | false =>
     rw [hdb, if_neg (by simp)] at hq
     simp only [hnn] at hq
     simp [rnumPeek, rnumRest, digPart, lf43, h0, h9, hn2, hge, hge1, ht1, hz, sByte_b8, hdb, wrap_succ (i := n) (by omega)]
     refine fin n 5 (c :: d') _ (by omega) hn (by rw [hpt, hcd]) ?_ ?_ ?_ ?_ ?_ ?_ ?_ (fun fr' b1 b2 b3 => hq fr' b1 b2 (by rw [b3, hr]; rfl)) <;> simp [h0, h1, h4, h7, h8, h9]
    | true =>
     rw [hdb, if_pos ⟨rfl, rfl⟩] at hq
     simp only at hq
     have hjm := drop_tw isDigit bs (n + 1)
     have htm := tw_dw isDigit (b :: r)
     have hpm := part_tw (p := isDigit) (bs := bs) (i := n + 1) rfl
     rw [hdn] at hjm hpm
     generalize hm : n + 1 + ((b :: r).takeWhile isDigit).length = m at hjm hpm
     have hlb : (b :: r).length = bs.length - (n + 1) := by simp at hlen1 ⊢; omega
     have hmm : bs.length - ((b :: r).dropWhile isDigit).length = m := by omega
     have hml : m ≤ bs.length := by omega
     have hs : (bs.take m).drop i = c :: d' ++ [46] ++ (b :: r).takeWhile isDigit := by
      have e1 : (bs.take m).drop i = ((bs.take m).drop i).take (n - i) ++ ((bs.take m).drop i).drop (n - i) := (List.take_append_drop _ _).symm
      have e2 : ((bs.take m).drop i).take (n - i) = c :: d' := by
       rw [← hcd, ← hpt, List.drop_take, List.drop_take, List.take_take]
       congr 1
       omega
      have e3 : ((bs.take m).drop i).drop (n - i) = [46] ++ (b :: r).takeWhile isDigit := by
       rw [List.drop_drop, show i + (n - i) = n from by omega, ← hpm, List.drop_take, List.drop_take, hr, hdn]
       rw [show m - n = (m - (n + 1)) + 1 from by omega, List.take_succ_cons]
       rfl
      rw [e1, e2, e3]
      simp
     rw [hmm, ← hjm] at hq
     simp [rnumPeek, rnumFrac, rnumRest, digPart, lf43, wE, h0, h1, h4, h7, h8, h9, hn2, hge, hge1, ht1, hz, sByte_b8, hdb, wrap_succ (i := n) (by omega)]
     show vc Tz lf43_B4 _ _ [wE 0 [] 0, wE 6 [] i]
     refine scan4 (j := n + 1) (n := m) hb (by simp [h0]) (by simp) (by omega) (by rw [hdn]; exact hm) (fun fr' hl g9 => ?_)
     have g0 := hl 0 (by omega) (by omega)
     have g1 := hl 1 (by omega) (by omega)
     have g4 := hl 4 (by omega) (by omega)
     have g7 := hl 7 (by omega) (by omega)
     have g8 := hl 8 (by omega) (by omega)
     have g10 := hl 10 (by omega) (by omega)
     simp [h0, h1, h4, h7, h8, h9] at g0 g1 g4 g7 g8 g10
     rw [seqQ_normal]
     exact fin m 6 _ fr' (by omega) hml hs g0 g1 g4 g7 g8 g9 g10 (fun fr'' b1 b2 b3 => hq fr'' b1 b2 (by rw [b3]; rfl))
   ·have hc : ¬ (a = 46 ∧ isDigit b = true) := fun h => ha h.1
    have hab : ((a.toNat : Int) == 46) = false := by rw [ha46]; simpa using ha
    rw [if_neg hc] at hq
    simp only [hnn] at hq
    simp [rnumPeek, rnumRest, digPart, lf43, h0, h9, hn2, hge, hab, wrap_succ (i := n) (by omega)]
    refine fin n 5 (c :: d') _ (by omega) hn (by rw [hpt, hcd]) ?_ ?_ ?_ ?_ ?_ ?_ ?_ (fun fr' b1 b2 b3 => hq fr' b1 b2 (by rw [b3, hr]; rfl)) <;> simp [h0, h1, h4, h7, h8, h9]
theorem rword_ok : FnOk Tryz.prog base 43 (pureS sRW) := by
 refine pure_of_vc hmix Tz_ok globNone low43 fun args x hs hf => ?_
 unfold sRW at hs
 split at hs
 case h_2 => cases hs
 rename_i es n0
 cases hd : decB es with
 | none => rw [hd] at hs; cases hs
 | some bs =>
  rw [hd] at hs
  simp only at hs
  split at hs
  case isFalse => cases hs
  rename_i hc
  obtain ⟨hn0, hlt, hb⟩ := hc
  obtain ⟨i, rfl⟩ := Int.eq_ofNat_of_zero_le hn0
  cases hs
  have := decB_some hd
  subst this
  simp only [Int.toNat_natCast] at hlt ⊢
  refine ⟨by simp [lf43], ?_⟩
  cases hr : bs.drop i with
  | nil => have := drop_nil_at hr; omega
  | cons c r =>
  obtain ⟨_, hge, hdn, hlen⟩ := drop_cons_at hr
  have hgi := getE hge
  have eq : ∀ m : UInt8, ((c.toNat : Int) == (m.toNat : Int)) = decide (c = m) := fun m => by rw [u8_beq]; by_cases h : c = m <;> simp [h]
  have e40 := eq 40; have e41 := eq 41; have e34 := eq 34; have e124 := eq 124; have e58 := eq 58
  rw [show (((40 : UInt8).toNat : Nat) : Int) = 40 from rfl] at e40
  rw [show (((41 : UInt8).toNat : Nat) : Int) = 41 from rfl] at e41
  rw [show (((34 : UInt8).toNat : Nat) : Int) = 34 from rfl] at e34
  rw [show (((124 : UInt8).toNat : Nat) : Int) = 124 from rfl] at e124
  rw [show (((58 : UInt8).toNat : Nat) : Int) = 58 from rfl] at e58
  clear eq
  have hnr : bs.length - r.length = i + 1 := by omega
  have hw1 := wrap_succ (i := i) (by omega)
  have hw0 : wE 0 [] (i : Int) = ⟨3, 0, false, [.p (.agg [.int .i64 0, .str [], .int .i64 i])], 27⟩ := rfl
  simp only [rwS]
  unfold wordV
  by_cases h40 : c = 40
  ·subst h40
   simp [lf43, hge, fillA, hw1, hnr]
  rw [if_neg h40]
  by_cases h41 : c = 41
  ·subst h41
   simp [lf43, hge, fillA, hw1, hnr]
  rw [if_neg h41]
  by_cases h34 : c = 34
  ·subst h34
   simp [lf43, hge, fillA, hw1]
   show vc Tz lf43_B0 _ _ [wE 0 [] 0, wE 7 [] i]
   refine text_loop (j := i + 1) hb (by simp) (by simp) (by simp) (by simp) (by omega) (fun t ht fr' hl h9 => ?_) (fun t ok q ht fr' h4 h5 h6 => ?_)
   ·rw [hdn] at ht
    rw [ht]
    have h4 := hl 4 (by omega) (by omega)
    have h8 := hl 8 (by omega) (by omega)
    simp at h4 h8
    unfold wE
    simp [h4, h8, h9]
   ·rw [hdn] at ht
    rw [ht]
    unfold wE
    simp [h4, h5, h6]
  rw [if_neg h34]
  by_cases h124 : c = 124
  ·subst h124
   have hjn := drop_tw isInBars bs (i + 1)
   have htw := tw_dw isInBars r
   rw [hdn] at hjn
   generalize hn : i + 1 + (r.takeWhile isInBars).length = n at hjn
   have hn' : i + 1 + ((bs.drop (i + 1)).takeWhile isInBars).length = n := by rw [hdn]; exact hn
   have hpt := part_tw hn'
   rw [hdn] at hpt
   simp [lf43, hge, fillA, hw1]
   show vc Tz lf43_B1 _ _ [wE 0 [] 0, wE 3 [] i]
   refine bars_loop (j := i + 1) (n := n) (a := i) hb (by simp) rfl (by simp) (by simp) (by simp) (by omega) hn' (fun hor fr' hl h9 => ?_) (fun d q hd hne fr' h4 h5 h6 => ?_)
   ·have h0 := hl 0 (by omega) (by omega)
    have h1 := hl 1 (by omega) (by omega)
    have h4 := hl 4 (by omega) (by omega)
    have h8 := hl 8 (by omega) (by omega)
    simp at h0 h1 h4 h8
    unfold wE
    rcases hor with hnil | ⟨q, hq⟩
    ·have hnl := drop_nil_at hnil
     have hnn : n = bs.length := by rw [← hjn, hnil] at htw; simp at htw; omega
     rw [← hjn, hnil]
     simp [h0, h4, h8, h9, hnl, hnn]
    ·obtain ⟨hlt2, _, _, hlen2⟩ := drop_cons_at hq
     have hnl : ¬ bs.length ≤ n := by omega
     have hnn : bs.length - q.length = n + 1 := by omega
     have hi1 : (i : Int) + 1 ≤ n := by omega
     have hnI : (n : Int) ≤ bs.length := by omega
     have ht1 : ((i : Int) + 1).toNat = i + 1 := by omega
     have hz : (0 : Int) ≤ (i : Int) + 1 := by omega
     have hnle : n ≤ bs.length := by omega
     have h3 : List.drop (i + 1) (List.take n (bs.map b8)) = (r.takeWhile isInBars).map b8 := by rw [← List.map_take, ← List.map_drop, hpt]
     rw [← hjn, hq]
     simp [h0, h1, h4, h8, h9, hnl, hw1, hi1, hnI, hnle, ht1, hz, sizeOk_map, wrap_succ (i := n) (by omega), hnn, h3, bytesOf_map2]
   ·obtain ⟨hlt2, _, _, hlen2⟩ := drop_cons_at hd
    have hnn : bs.length - (d :: q).length = n := by simp at hlen2 ⊢; omega
    rw [← hjn, hd]
    simp only
    rw [if_neg hne]
    simp only [hnn]
    unfold wE
    simp [h4, h5, h6]
  rw [if_neg h124]
  by_cases h58 : c = 58
  ·subst h58
   have hjn := drop_tw isSign bs (i + 1)
   have htw := tw_dw isSign r
   rw [hdn] at hjn
   generalize hn : i + 1 + (r.takeWhile isSign).length = n at hjn
   have hn' : i + 1 + ((bs.drop (i + 1)).takeWhile isSign).length = n := by rw [hdn]; exact hn
   have hpt := part_tw hn'
   rw [hdn] at hpt
   have h3 : List.drop (i + 1) (List.take n (bs.map b8)) = (r.takeWhile isSign).map b8 := by rw [← List.map_take, ← List.map_drop, hpt]
   have hnn : bs.length - (r.dropWhile isSign).length = n := by omega
   have hok : (!(r.takeWhile isSign == [])) = decide ((n : Int) > (i : Int) + 1) := by
    rw [Bool.eq_iff_iff]
    cases hs : r.takeWhile isSign with
    | nil => rw [hs] at hn; simp at hn ⊢; omega
    | cons a b => rw [hs] at hn; simp at hn ⊢; omega
   rw [if_pos rfl]
   simp only
   rw [hok, hnn]
   generalize r.takeWhile isSign = s at h3
   simp [lf43, hge, fillA, hw1]
   show vc Tz lf43_B2 _ _ [wE 0 [] 0, wE 4 [] i]
   refine scan2 (j := i + 1) (n := n) hb (by simp) (by simp) (by omega) hn' (fun fr' hl h9 => ?_)
   have h0 := hl 0 (by omega) (by omega)
   have h1 := hl 1 (by omega) (by omega)
   have h4 := hl 4 (by omega) (by omega)
   have h8 := hl 8 (by omega) (by omega)
   simp at h0 h1 h4 h8
   have hi1 : (i : Int) + 1 ≤ n := by omega
   have hnI : (n : Int) ≤ bs.length := by omega
   have hnle : n ≤ bs.length := by omega
   have ht1 : ((i : Int) + 1).toNat = i + 1 := by omega
   have hz : (0 : Int) ≤ (i : Int) + 1 := by omega
   unfold wE
   simp [h0, h1, h4, h8, h9, hw1, hi1, hnI, hnle, ht1, hz, sizeOk_map, h3, bytesOf_map2]
  rw [if_neg h58]
  cases hdc : isDigit c with
  | true =>
   rw [if_pos rfl]
   have hjn := drop_tw isDigit bs i
   have htw := tw_dw isDigit (c :: r)
   have hcd : (c :: r).takeWhile isDigit = c :: r.takeWhile isDigit := by rw [List.takeWhile_cons, hdc]; rfl
   generalize hn : i + ((bs.drop i).takeWhile isDigit).length = n at hjn
   have hn1 : i + 1 + ((bs.drop (i + 1)).takeWhile isDigit).length = n := by
    rw [hdn, ← hn, hr, hcd]; simp; omega
   have hnle : n ≤ bs.length := by rw [hr] at hn; simp at htw; omega
   simp [lf43, hge, fillA, hw1, e40, e41, e34, e124, e58, h40, h41, h34, h124, h58, sByte_b8, hdc]
   show vc Tz lf43_B3 (seqQ Tz rnumRest _) _ [wE 0 [] 0, wE 5 [] i]
   refine scan3 (j := i + 1) (n := n) hb (by simp) (by simp) (by omega) hn1 (fun fr' hl h9 => ?_)
   have h0 := hl 0 (by omega) (by omega)
   have h1 := hl 1 (by omega) (by omega)
   have h4 := hl 4 (by omega) (by omega)
   have h7 := hl 7 (by omega) (by omega)
   have h8 := hl 8 (by omega) (by omega)
   simp at h0 h1 h4 h7 h8
   rw [seqQ_normal]
   refine rnum_rest hb h0 h1 h4 h7 h8 h9 hn hnle ⟨_, by rw [hr, hcd]⟩ (fun fr'' g4 g5 g6 => ?_)
   rw [hr] at g5 g6 ⊢
   unfold wE
   simp [g4, g5, g6, rwS.ansNum]
  | false =>
   rw [if_neg (by simp)]
   cases hsc : isSign c with
   | true =>
    rw [if_pos rfl]
    have hrc : (c :: r).takeWhile isSign = c :: r.takeWhile isSign := by rw [List.takeWhile_cons, hsc]; rfl
    have hdc2 : (c :: r).dropWhile isSign = r.dropWhile isSign := by rw [List.dropWhile_cons, hsc]; rfl
    have hjn := drop_tw isSign bs i
    have htw := tw_dw isSign r
    generalize hn : i + 1 + (r.takeWhile isSign).length = n
    have hn' : i + 1 + ((bs.drop (i + 1)).takeWhile isSign).length = n := by rw [hdn]; exact hn
    have hn2 : i + ((bs.drop i).takeWhile isSign).length = n := by rw [hr, hrc]; simp; omega
    have hpt := part_tw hn2
    rw [hr] at hpt
    have h3 : List.drop i (List.take n (bs.map b8)) = ((c :: r).takeWhile isSign).map b8 := by rw [← List.map_take, ← List.map_drop, hpt]
    have hnn : bs.length - (r.dropWhile isSign).length = n := by omega
    rw [hdc2]
    simp only
    rw [hnn]
    generalize (c :: r).takeWhile isSign = s at h3
    simp [lf43, hge, fillA, hw1, e40, e41, e34, e124, e58, h40, h41, h34, h124, h58, sByte_b8, hdc, hsc]
    show vc Tz lf43_B5 _ _ [wE 0 [] 0, wE 3 [] i]
    refine scan5 (j := i + 1) (n := n) hb (by simp) (by simp) (by omega) hn' (fun fr' hl h9 => ?_)
    have h0 := hl 0 (by omega) (by omega)
    have h1 := hl 1 (by omega) (by omega)
    have h4 := hl 4 (by omega) (by omega)
    have h8 := hl 8 (by omega) (by omega)
    simp at h0 h1 h4 h8
    have hi1 : (i : Int) ≤ n := by omega
    have hnI : (n : Int) ≤ bs.length := by omega
    have hnle : n ≤ bs.length := by omega
    unfold wE
    simp [h0, h1, h4, h8, h9, hi1, hnI, hnle, sizeOk_map, h3, bytesOf_map2]
   | false =>
    rw [if_neg (by simp)]
    simp only [hnr]
    simp [lf43, hge, fillA, hw1, e40, e41, e34, e124, e58, h40, h41, h34, h124, h58, sByte_b8, hdc, hsc]
end Go.Proofs.YtcbagnlidecmkaaGreatDoor

/-
 lex: the reference's Words, and same.
-/
namespace Go.Proofs.YtcbagnlidecmkaaGreatDoor
open Go Go.Abs Go.Lex
variable {base : Prot}
set_option maxRecDepth 20000
attribute [local simp] pureS touchV freezeL fuel shiftV
def Tv : Tab := (Tab.none.with 42 (pureS (sByte isBlank))).with 43 (pureS sRW)
def OutOk (x : AVal) (H : Heap) (ws : List PVal) : Prop := (x = .tight [] ∧ ws = []) ∨ ∃ j ver, x = .own j 0 ws.length ver ∧ 0 < j ∧ H[j]? = some ⟨3, ver, false, ws.map .p, 27⟩
theorem OutOk.keep {x : AVal} {H H' : Heap} {ws : List PVal} (h : OutOk x H ws) (hs : ∀ j, 0 < j → j < H.length → H'[j]? = H[j]?) : OutOk x H' ws := by
 rcases h with h | ⟨j, ver, h1, h2, h3⟩
 ·exact .inl h
 ·exact .inr ⟨j, ver, h1, h2, by rw [hs j h2 (List.getElem?_eq_some_iff.1 h3).1]; exact h3⟩
theorem OutOk.app {x : AVal} {G : Heap} {ws : List PVal} (h : OutOk x G ws) (hG : 0 < G.length) (hn : ws.length ≤ 65536) (a : Int) (t : List UInt8) (b : Int) :
  ∃ x' G', appV 3 32 27 x [.p (.agg [.int .i64 a, .str t, .int .i64 b])] G = some (x', G') ∧ OutOk x' G' (ws ++ [wordV a t b]) ∧ G'[0]? = G[0]? := by
 have hm : maxLen = 9223372036854775807 := rfl
 rcases h with ⟨rfl, rfl⟩ | ⟨j, ver, rfl, hj, hk⟩
 ·refine ⟨.own G.length 0 1 0, G ++ [⟨3, 0, false, [.p (wordV a t b)], 27⟩], ?_, .inr ⟨G.length, 0, rfl, hG, by simp⟩, by rw [List.getElem?_append_left hG]⟩
  simp [appV, hm, wordV]
 ·have hjl := (List.getElem?_eq_some_iff.1 hk).1
  refine ⟨.own j 0 (ws.length + 1) (ver + 1), G.set j ⟨3, ver + 1, false, ws.map .p ++ [.p (wordV a t b)], 27⟩, ?_, .inr ⟨j, ver + 1, by simp, hj, by simp [hjl]⟩, by rw [List.getElem?_set_ne (by omega)]⟩
  simp [appV, hk, hm, wordV]
  omega
theorem OutOk.res {x : AVal} {H : Heap} {ws : List PVal} (h : OutOk x H ws) (n : Nat) : resolveV H (n + 1) x = some (.lst ws) := by
 rcases h with ⟨rfl, rfl⟩ | ⟨j, ver, rfl, hj, hk⟩
 ·rfl
 ·simp only [resolveV, hk]
  have : (ws.map AVal.p).take ws.length = ws.map .p := List.take_of_length_le (by simp)
  simp [this, mapO_p]
theorem hp_new {H0 : Heap} {k : Nat} {e w : Ent} : (H0.set k e ++ [w])[H0.length]? = some w := by simp
theorem Tv_ok : TabOk Tryz.prog base Tv := Tab.with_ok (Tab.with_ok Tab.none_ok rblank_ok) rword_ok
theorem Tv_mu (f : FuncId) (a : List AVal) (H : Heap) : Tv.mu f a H = none := (rfl)
theorem Tv_20 : Tv.fn 42 = pureS (sByte isBlank) := (rfl)
theorem Tv_21 : Tv.fn 43 = pureS sRW := (rfl)
attribute [local simp] Tv_mu Tv_20 Tv_21
def Low9 (fr fr' : AFr) : Prop := ∀ t, t < 9 → t ≠ 5 → fr' t = fr t
theorem Low9.refl (fr : AFr) : Low9 fr fr := fun _ _ _ => rfl
theorem Low9.upd {fr fr' : AFr} (h : Low9 fr fr') {d : Nat} {v : AVal} (hd : 9 ≤ d ∨ d = 5) : Low9 fr (upd fr' d v) := fun t h1 h2 => by
 show (if t = d then v else fr' t) = fr t
 rw [if_neg (by omega)]
 exact h t h1 h2
theorem note_loop {bs : List UInt8} (hb : bs.length ≤ 65536) {Q : LExit → AFr → Heap → Prop} {fr : AFr} {H : Heap} {j n : Nat} (h0 : fr 0 = .p (.lst (bs.map b8))) (h5 : fr 5 = .p (.int .i64 j)) (hj : j ≤ bs.length) (hn : j + ((bs.drop j).takeWhile isNoBreak).length = n)
  (hq : ∀ fr', Low9 fr fr' → fr' 5 = .p (.int .i64 n) → Q .normal fr' H) : vc Tv lf20_B0 Q fr H := by
 simp only [lf20_B0, vc_block]
 refine loop_ind (fun fr1 H1 => ∃ i : Nat, H1 = H ∧ i ≤ bs.length ∧ Low9 fr fr1 ∧ fr1 5 = .p (.int .i64 i) ∧ i + ((bs.drop i).takeWhile isNoBreak).length = n) (fun fr1 _ => bs.length - ivar (fr1 5)) ⟨j, rfl, hj, Low9.refl _, h5, hn⟩ ?_
 rintro fr1 H1 ⟨i, rfl, hi, hl, h5, hin⟩
 have h0' : fr1 0 = .p (.lst (bs.map b8)) := by rw [hl 0 (by omega) (by omega)]; exact h0
 cases hr : bs.drop i with
 | nil =>
  have hnl := drop_nil_at hr
  have hlt : ¬ i < bs.length := by omega
  rw [hr] at hin
  have hin' : i = n := by simpa using hin
  simp [h0', h5, hlt]
  refine hq _ ?_ ?_
  ·repeat (first | exact hl | refine Low9.upd ?_ (by decide))
  ·simp [h5, hin']
 | cons c r =>
  obtain ⟨hlt, hge, hdn, hlen⟩ := drop_cons_at hr
  have hgi := getE hge
  rw [hr, List.takeWhile_cons] at hin
  have hnb : isNoBreak c = (((c.toNat : Int) != 10) && ((c.toNat : Int) != 13)) := rfl
  rw [hnb] at hin
  cases h10 : ((c.toNat : Int) != 10) with
  | false =>
   rw [h10] at hin
   have hin' : i = n := by simpa using hin
   simp [h0', h5, hlt, hgi, h10]
   refine hq _ ?_ ?_
   ·repeat (first | exact hl | refine Low9.upd ?_ (by decide))
   ·simp [h5, hin']
  | true =>
   cases h13 : ((c.toNat : Int) != 13) with
   | false =>
    rw [h10, h13] at hin
    have hin' : i = n := by simpa using hin
    simp [h0', h5, hlt, hgi, h10, h13]
    refine hq _ ?_ ?_
    ·repeat (first | exact hl | refine Low9.upd ?_ (by decide))
    ·simp [h5, hin']
   | true =>
    rw [h10, h13] at hin
    simp [h0', h5, hlt, hgi, h10, h13, wrap_succ (i := i) (by omega), ivar]
    refine ⟨⟨i + 1, by omega, (by repeat (first | exact hl | refine Low9.upd ?_ (by decide))), by simp, ?_⟩, by omega⟩
    rw [hdn]
    simp at hin
    omega
theorem words_ok : FnOk Tryz.prog base 20 (pureS sAll) := by
 refine pure_of_vc hmix Tv_ok globNone low20 fun args x hs hf => ?_
 unfold sAll at hs
 split at hs
 case h_2 => cases hs
 rename_i es
 cases hd : decB es with
 | none => rw [hd] at hs; cases hs
 | some bs =>
  rw [hd] at hs
  cases hs
  have := decB_some hd
  subst this
  refine ⟨by simp [lf20], ?_⟩
  unfold allS
  by_cases hbig : 65536 < bs.length
  ·have h1 : (65536 : Int) < bs.length := by omega
   rw [if_pos hbig]
   simp [lf20, h1]
  have hb : bs.length ≤ 65536 := by omega
  have h1 : ¬ (65536 : Int) < bs.length := by omega
  rw [if_neg hbig]
  simp [lf20, h1]
  simp only [lf20_B1, vc_block]
  refine loop_ind (fun fr H => ∃ i ws, i ≤ bs.length ∧ fr 0 = .p (.lst (bs.map b8)) ∧ fr 5 = .p (.int .i64 ((i : Nat) : Int)) ∧ OutOk (fr 4) H (ws.map Wd.v) ∧ ws.length ≤ i ∧
    lexL bs.length bs = (lexL bs.length (bs.drop i)).map (ws ++ ·))
   (fun fr _ => bs.length - ivar (fr 5)) ⟨0, [], by simp, by simp, by simp, by simp; exact .inl ⟨rfl, rfl⟩, by simp, by simp⟩ ?_
  rintro fr H ⟨i, ws, hi, h0, h5, hout, hwi, hlex⟩
  cases hr : bs.drop i with
  | nil =>
   have hnl := drop_nil_at hr
   have hlt : ¬ i < bs.length := by omega
   rw [hr] at hlex
   rw [lexL_eq bs.length [], show skip ([] : List UInt8) = [] from rfl] at hlex
   simp only [Option.map_some] at hlex
   rw [hlex]
   have hres := hout.res 6
   rcases hout with ⟨h2, hz⟩ | ⟨j, ver, h2, hj, hk⟩
   ·simp only [List.map_eq_nil_iff] at hz
    subst hz
    simp [h0, h5, hlt, h2]
   ·rw [h2] at hres
    simp only [List.length_map] at h2 hres
    simp [h0, h5, hlt, h2, hres, -resolveV]
    simp only [resolveV] at hres
    simp only [resolveV, mapO, hres]
  | cons c r =>
   obtain ⟨hlt, hge, hdn, hlen⟩ := drop_cons_at hr
   have hgi := getE hge
   rw [hr] at hlex
   cases hbl : isBlank c with
   | true =>
    rw [lexL_skip (skip_blank hbl r)] at hlex
    simp [h0, h5, hlt, hgi, sByte_b8, hbl, wrap_succ (i := i) (by omega), ivar]
    exact ⟨⟨i + 1, by omega, by simp, ws, hout, by omega, by rw [hdn]; exact hlex⟩, by omega⟩
   | false =>
    have e59 : ((c.toNat : Int) == 59) = (c == 59) := by rw [show (59 : Int) = ((59 : UInt8).toNat : Int) from rfl, u8_beq]
    by_cases h59 : c = 59
    ·subst h59
     have hjn := drop_tw isNoBreak bs i
     have htw := tw_dw isNoBreak (bs.drop i)
     simp only [List.length_drop] at htw
     generalize hn : i + ((bs.drop i).takeWhile isNoBreak).length = n at hjn
     have hgt : i < n := by
      rw [← hn, hr, List.takeWhile_cons, show isNoBreak 59 = true from by decide]
      simp
     rw [lexL_skip (skip_note r), ← hr, ← hjn] at hlex
     simp [h0, h5, hlt, hgi, sByte_b8, hbl]
     refine note_loop (j := i) (n := n) hb (by simp [h0]) (by simp [h5]) hi hn (fun fr' hl h5' => ?_)
     have g0 := hl 0 (by omega) (by omega)
     have g4 := hl 4 (by omega) (by omega)
     simp [h0] at g0 g4
     simp [h5, h5', g0, g4, ivar]
     exact ⟨⟨n, by omega, rfl, ws, hout, by omega, hlex⟩, by omega⟩
    ·have h59' : (c == 59) = false := by simpa using h59
     rw [lexL_eq bs.length (c :: r), skip_word hbl h59] at hlex
     simp only at hlex
     have hrw : sRW [.lst (bs.map b8), .int .i64 i] = some (.tup [wordV (rwS (c :: r)).1.1 (rwS (c :: r)).1.2.1 i, .int .i64 ((bs.length - (rwS (c :: r)).2.length : Nat) : Int), .bool (rwS (c :: r)).1.2.2]) := by
      simp [sRW, decB_map, hlt, hb, hr]
     obtain ⟨ag1, ag2⟩ := rwS_word (c :: r)
     have hwl := wordS_len c r
     have hsuf := drop_suffix_len ((wordS_suffix (c :: r)).trans (by rw [← hr]; exact List.drop_suffix _ _) : (wordS (c :: r)).2 <:+ bs)
     cases hok : (rwS (c :: r)).1.2.2 with
     | false =>
      rw [hok] at ag1 hrw
      have hlex' : lexL bs.length bs = none := by
       rw [hlex]
       cases ha : ansK (wordS (c :: r)).1 with
       | mk kd p =>
        obtain ⟨t, ok⟩ := p
        rw [ha] at ag1
        have : ok = false := ag1.symm
        subst this
        rfl
      rw [hlex']
      unfold wordV at hrw
      simp [h0, h5, hlt, hgi, sByte_b8, hbl, e59, h59', hrw, hp_new]
     | true =>
      have ag2 := ag2 hok
      rw [ag2] at hrw hok
      cases ha : ansK (wordS (c :: r)).1 with
      | mk kd p =>
       obtain ⟨t, ok⟩ := p
       rw [ha] at hlex hwl hrw hok
       have : ok = true := hok
       subst this
       have hql := hwl rfl
       simp only at hlex hrw
       generalize (wordS (c :: r)).2 = q at hlex hrw hql hsuf
       generalize hi2 : bs.length - q.length = i2 at hrw hsuf
       let G : Heap := H ++ [⟨3, 0, false, [.p (.agg [.int .i64 kd, .str t, .int .i64 i])], 27⟩, ⟨3, 0, false, [.p (.agg [.int .i64 kd, .str t, .int .i64 i])], 27⟩]
       have hG : G = H ++ [⟨3, 0, false, [.p (.agg [.int .i64 kd, .str t, .int .i64 i])], 27⟩, ⟨3, 0, false, [.p (.agg [.int .i64 kd, .str t, .int .i64 i])], 27⟩] := rfl
       have hGo : OutOk (fr 4) G (ws.map Wd.v) := hout.keep fun j h1 h2 => by rw [hG, List.getElem?_append_left h2]
       obtain ⟨x', G', happ, hout', hG0⟩ := hGo.app (by rw [hG]; simp) (by simp; omega) kd t i
       rw [hG] at happ
       unfold wordV at hrw
       simp [h0, h5, hlt, hgi, sByte_b8, hbl, e59, h59', hrw, fillS, List.replicate, -appV, happ, ivar]
       refine ⟨⟨i2, by omega, rfl, ws ++ [⟨kd, t, i⟩], ?_, ?_, ?_⟩, by omega⟩
       ·simpa [Wd.v, wordV] using hout'
       ·simp; omega
       ·rw [hsuf, hlex]
        have e2 : bs.length - (r.length + 1) = i := by omega
        simp only [e2, Option.map_map]
        congr 1
        funext x
        simp
end Go.Proofs.YtcbagnlidecmkaaGreatDoor

/-
 lex: same, Round, Quote of both.
-/
namespace Go.Proofs.YtcbagnlidecmkaaGreatDoor
open Go Go.Abs Go.Lex
set_option maxRecDepth 20000
attribute [local simp] pureS touchV freezeL fuel shiftV
section
variable {base : Prot}
deriving instance DecidableEq for Wd
def decW : List PVal → Option (List Wd)
 | [] => some []
 | .agg [.int .i64 kd, .str t, .int .i64 n] :: r => if 0 ≤ n then (match decW r with | some l => some (⟨kd, t, n.toNat⟩ :: l) | none => none) else none
 | _ :: _ => none
theorem decW_map : ∀ l : List Wd, decW (l.map Wd.v) = some l
 | [] => rfl
 | w :: l => by simp [Wd.v, wordV, decW, decW_map l]
theorem decW_some : ∀ {l : List PVal} {ws : List Wd}, decW l = some ws → l = ws.map Wd.v
 | [], ws, h => by simp [decW] at h; subst h; rfl
 | x :: r, ws, h => by
  unfold decW at h
  split at h
  ·rename_i e; cases e
  ·rename_i kd t n r' e
   cases e
   split at h
   ·rename_i hn
    cases hd : decW r with
    | none => rw [hd] at h; cases h
    | some l =>
     rw [hd] at h
     cases h
     rw [decW_some hd]
     obtain ⟨m, rfl⟩ := Int.eq_ofNat_of_zero_le hn
     rfl
   ·cases h
  ·cases h
def sRound : List PVal → Option PVal
 | [.int .i64 k, .int .i64 n] => if 0 < n ∧ n ≤ 1000000 then some (.int .i64 (k % n)) else none
 | _ => none
end
theorem bars_eq (c : UInt8) : isInBars c = (!(((c.toNat : Int) == 124) || (((c.toNat : Int) == 92) || !isInner c))) := by
 unfold isInBars
 simp only [bne]
 cases ((c.toNat : Int) == 124) <;> cases ((c.toNat : Int) == 92) <;> cases isInner c <;> rfl
def sQuote : List PVal → Option PVal
 | [.str s] => if s.length ≤ 100000 then (match quoteS s with
  | some q => some (.tup [.str q, .int .i64 0])
  | none => some (.tup [.str [], .int .i64 2])) else none
 | _ => none
def Tqa : Tab := ((Tab.none.with 87 (pureS sPlain)).with 72 (pureS sRes)).with 88 (pureS (sByte isInner))
theorem Tqa_ok : TabOk Tryz.prog base1 Tqa := Tab.with_ok (Tab.with_ok (Tab.with_ok Tab.none_ok plain_ok) res_ok) inner_ok
theorem Tqa_mu (f : FuncId) (a : List AVal) (H : Heap) : Tqa.mu f a H = none := (rfl)
theorem Tqa_a : Tqa.fn 87 = pureS sPlain := (rfl)
theorem Tqa_b : Tqa.fn 72 = pureS sRes := (rfl)
theorem Tqa_c : Tqa.fn 88 = pureS (sByte isInner) := (rfl)
theorem quote_loop {s : List UInt8} (hlen : s.length ≤ 100000) {Q : LExit → AFr → Heap → Prop} {fr : AFr} (h0 : fr 0 = .p (.str s)) (h14 : fr 14 = .p (.int .i64 s.length)) (h15 : fr 15 = .p (.int .i64 0))
  (hn : ∀ fr, s.all isInBars = true → fr 0 = .p (.str s) → Q .normal fr []) (hr : ∀ fr, s.all isInBars = false → fr 2 = .p (.str []) → fr 3 = .p (.int .i64 2) → Q .ret fr []) : vc Tqa lf73_B0 Q fr [] := by
 simp only [lf73_B0, vc_block]
 refine loop_ind (fun fr H => ∃ i : Nat, H = [] ∧ i ≤ s.length ∧ fr 0 = .p (.str s) ∧ fr 14 = .p (.int .i64 s.length) ∧ fr 15 = .p (.int .i64 i) ∧ (s.take i).all isInBars = true) (fun fr _ => s.length - ivar (fr 15)) ⟨0, rfl, by omega, h0, h14, h15, by simp⟩ ?_
 rintro fr H ⟨i, rfl, hi, h0, h14, h15, hj⟩
 by_cases h : i < s.length
 ·have hs : s[i]? = some s[i] := List.getElem?_eq_getElem _
  have hb := bars_eq s[i]
  have hall : isInBars s[i] = false → s.all isInBars = false := fun hc => by
   rw [List.all_eq_false]
   exact ⟨s[i], List.mem_of_getElem? hs, by simp [hc]⟩
  cases e1 : ((s[i].toNat : Int) == 124) with
  | true =>
   rw [e1] at hb
   simp [h0, h14, h15, h, e1]
   exact hr _ (hall hb) (by simp) (by simp)
  | false =>
   cases e2 : ((s[i].toNat : Int) == 92) with
   | true =>
    rw [e1, e2] at hb
    simp [h0, h14, h15, h, e1, e2]
    exact hr _ (hall hb) (by simp) (by simp)
   | false =>
    cases e3 : isInner s[i] with
    | false =>
     rw [e1, e2, e3] at hb
     simp [h0, h14, h15, h, e1, e2, Tqa_mu, Tqa_c, sByte_b8, e3]
     exact hr _ (hall hb) (by simp) (by simp)
    | true =>
     rw [e1, e2, e3] at hb
     have hj' : (s.take (i + 1)).all isInBars = true := by rw [all_take_succ hs, hj, hb]; rfl
     simp [h0, h14, h15, h, e1, e2, Tqa_mu, Tqa_c, sByte_b8, e3, wrap_succ (i := i) (by omega), ivar, -List.all_eq_true]
     exact ⟨⟨i + 1, by omega, by simp, hj'⟩, by omega⟩
 ·have : i = s.length := by omega
  subst this
  simp [h0, h14, h15]
  exact hn _ (by simpa using hj) h0
theorem quote_ok : FnOk Tryz.prog base1 73 (pureS sQuote) := by
 refine pure_of_vc hmix Tqa_ok globNone low73 fun args x hs hf => ?_
 unfold sQuote at hs
 split at hs
 case h_2 => cases hs
 rename_i s
 split at hs
 case isFalse => cases hs
 rename_i hlen
 refine ⟨by simp at hs ⊢; simp [lf73], ?_⟩
 have hm : maxLen = 9223372036854775807 := rfl
 have hl1 : 1 + s.length ≤ maxLen := by omega
 have hl2 : s.length + 1 + 1 ≤ maxLen := by omega
 unfold quoteS at hs
 cases hp : isPlain s with
 | true =>
  cases hr : isRes s with
  | false =>
   rw [hp, hr] at hs
   cases hs
   simp [lf73, Tqa_mu, Tqa_a, Tqa_b, sPlain, sRes, hp, hr]
  | true =>
   rw [hp, hr] at hs
   simp at hs
   simp [lf73, Tqa_mu, Tqa_a, Tqa_b, sPlain, sRes, hp, hr]
   refine quote_loop hlen (by simp) (by simp) (by simp) (fun fr ha h0 => ?_) (fun fr ha h2 h3 => ?_)
   ·rw [if_pos (by simpa using ha)] at hs
    cases hs
    simp [h0, binS, hl1, hl2]
   ·rw [if_neg (by simpa using ha)] at hs
    cases hs
    simp [h2, h3]
 | false =>
  rw [hp] at hs
  simp at hs
  simp [lf73, Tqa_mu, Tqa_a, sPlain, hp]
  refine quote_loop hlen (by simp) (by simp) (by simp) (fun fr ha h0 => ?_) (fun fr ha h2 h3 => ?_)
  ·rw [if_pos (by simpa using ha)] at hs
   cases hs
   simp [h0, binS, hl1, hl2]
  ·rw [if_neg (by simpa using ha)] at hs
   cases hs
   simp [h2, h3]
def sQuoteR : List PVal → Option PVal
 | [.str s] => if s.length ≤ 100000 then (match quoteS s with
  | some q => some (.tup [.str q, .bool true])
  | none => some (.tup [.str [], .bool false])) else none
 | _ => none
def Tqb : Tab := ((Tab.none.with 79 (pureS sPlain)).with 60 (pureS sRes)).with 64 (pureS (sByte isPrints))
theorem Tqb_ok : TabOk Tryz.prog base1 Tqb := Tab.with_ok (Tab.with_ok (Tab.with_ok Tab.none_ok rplain_ok) rres_ok) rprints_ok
theorem Tqb_mu (f : FuncId) (a : List AVal) (H : Heap) : Tqb.mu f a H = none := (rfl)
theorem Tqb_a : Tqb.fn 79 = pureS sPlain := (rfl)
theorem Tqb_b : Tqb.fn 60 = pureS sRes := (rfl)
theorem Tqb_c : Tqb.fn 64 = pureS (sByte isPrints) := (rfl)
theorem quoteR_loop {s : List UInt8} (hlen : s.length ≤ 100000) {Q : LExit → AFr → Heap → Prop} {fr : AFr} (h0 : fr 0 = .p (.str s)) (h15 : fr 4 = .p (.int .i64 0))
  (hn : ∀ fr, s.all isInBars = true → fr 0 = .p (.str s) → Q .normal fr []) (hr : ∀ fr, s.all isInBars = false → fr 2 = .p (.str []) → fr 3 = .p (.bool false) → Q .ret fr []) : vc Tqb lf61_B0 Q fr [] := by
 simp only [lf61_B0, vc_block]
 refine loop_ind (fun fr H => ∃ i : Nat, H = [] ∧ i ≤ s.length ∧ fr 0 = .p (.str s) ∧ fr 4 = .p (.int .i64 i) ∧ (s.take i).all isInBars = true) (fun fr _ => s.length - ivar (fr 4)) ⟨0, rfl, by omega, h0, h15, by simp⟩ ?_
 rintro fr H ⟨i, rfl, hi, h0, h15, hj⟩
 by_cases h : i < s.length
 ·have hs : s[i]? = some s[i] := List.getElem?_eq_getElem _
  have hb := bars_eq s[i]
  have hall : isInBars s[i] = false → s.all isInBars = false := fun hc => by
   rw [List.all_eq_false]
   exact ⟨s[i], List.mem_of_getElem? hs, by simp [hc]⟩
  cases e1 : ((s[i].toNat : Int) == 124) with
  | true =>
   rw [e1] at hb
   simp [h0, h15, h, e1]
   exact hr _ (hall hb) (by simp) (by simp)
  | false =>
   cases e2 : ((s[i].toNat : Int) == 92) with
   | true =>
    rw [e1, e2] at hb
    simp [h0, h15, h, e1, e2]
    exact hr _ (hall hb) (by simp) (by simp)
   | false =>
    cases e3 : isInner s[i] with
    | false =>
     rw [e1, e2, e3] at hb
     simp [h0, h15, h, e1, e2, Tqb_mu, Tqb_c, sByte_b8, e3, prints_inner]
     exact hr _ (hall hb) (by simp) (by simp)
    | true =>
     rw [e1, e2, e3] at hb
     have hj' : (s.take (i + 1)).all isInBars = true := by rw [all_take_succ hs, hj, hb]; rfl
     simp [h0, h15, h, e1, e2, Tqb_mu, Tqb_c, sByte_b8, e3, prints_inner, wrap_succ (i := i) (by omega), ivar, -List.all_eq_true]
     exact ⟨⟨i + 1, by omega, by simp, hj'⟩, by omega⟩
 ·have : i = s.length := by omega
  subst this
  simp [h0, h15]
  exact hn _ (by simpa using hj) (by simp [h0])
theorem quoteR_ok : FnOk Tryz.prog base1 61 (pureS sQuoteR) := by
 refine pure_of_vc hmix Tqb_ok globNone low61 fun args x hs hf => ?_
 unfold sQuoteR at hs
 split at hs
 case h_2 => cases hs
 rename_i s
 split at hs
 case isFalse => cases hs
 rename_i hlen
 refine ⟨by simp at hs ⊢; simp [lf61], ?_⟩
 have hm : maxLen = 9223372036854775807 := rfl
 have hl1 : 1 + s.length ≤ maxLen := by omega
 have hl2 : s.length + 1 + 1 ≤ maxLen := by omega
 unfold quoteS at hs
 cases hp : isPlain s with
 | true =>
  cases hr : isRes s with
  | false =>
   rw [hp, hr] at hs
   cases hs
   simp [lf61, Tqb_mu, Tqb_a, Tqb_b, sPlain, sRes, hp, hr]
  | true =>
   rw [hp, hr] at hs
   simp at hs
   simp [lf61, Tqb_mu, Tqb_a, Tqb_b, sPlain, sRes, hp, hr]
   refine quoteR_loop hlen (by simp) (by simp) (fun fr ha h0 => ?_) (fun fr ha h2 h3 => ?_)
   ·rw [if_pos (by simpa using ha)] at hs
    cases hs
    simp [h0, binS, hl1, hl2]
   ·rw [if_neg (by simpa using ha)] at hs
    cases hs
    simp [h2, h3]
 | false =>
  rw [hp] at hs
  simp at hs
  simp [lf61, Tqb_mu, Tqb_a, sPlain, hp]
  refine quoteR_loop hlen (by simp) (by simp) (fun fr ha h0 => ?_) (fun fr ha h2 h3 => ?_)
  ·rw [if_pos (by simpa using ha)] at hs
   cases hs
   simp [h0, binS, hl1, hl2]
  ·rw [if_neg (by simpa using ha)] at hs
   cases hs
   simp [h2, h3]
end Go.Proofs.YtcbagnlidecmkaaGreatDoor
