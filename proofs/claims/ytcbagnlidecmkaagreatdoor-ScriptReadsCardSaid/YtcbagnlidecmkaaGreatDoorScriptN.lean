/-
  The reference's Parse on functions and definitions, and Whole. No conditions beyond the lemmas' own hypotheses.
-/
import Derived.Test.YtcbagnlidecmkaaGreatDoorScriptM
import Derived.Test.YtcbagnlidecmkaaGreatDoorScriptF
set_option linter.unusedSimpArgs false
set_option linter.unnecessarySimpa false
set_option linter.unusedVariables false
set_option linter.constructorNameAsVariable false

/-
 The reference's Parse: functions.
-/
namespace Go.Proofs.YtcbagnlidecmkaaGreatDoor
open Go Go.Abs Go.Lex Go.Sexp
set_option maxRecDepth 20000
attribute [local irreducible] vc
attribute [local simp] pureS touchV freezeL fuel shiftV Trp_mu Trp_1 Trp_2
theorem rp_5 (p : Nat) (l : List (Tr Wd)) (hsz : sizeL l ≤ 1000000) : RP (.list (.leaf ⟨3, [100, 101, 99, 108, 97, 114, 101, 45, 102, 117, 110], p⟩ :: l)) (rFun l) := by
 match l, hsz with
 | [], _ => simp [lf34, Trp_mu, Trp_1, Trp_2, RP, encT, encL, sym_head, txtT_tx, binS, fillA, sizeOk_cons, sizeOk_tree, sizeOk_nil, sizeOk_enc, rFun, encC_z]
 | [a], _ =>
  obtain ⟨a1, a2, a3, a4, a5, aen⟩ := encT_shape a
  have asy := sRSym_at a
  rw [aen] at asy
  simp [lf34, Trp_mu, Trp_1, Trp_2, RP, encT, encL, sym_head, txtT_tx, binS, fillA, sizeOk_cons, sizeOk_tree, sizeOk_nil, sizeOk_enc, rFun, encC_z, aen, asy]
 | [a, b], _ =>
  obtain ⟨a1, a2, a3, a4, a5, aen⟩ := encT_shape a
  have asy := sRSym_at a
  rw [aen] at asy
  obtain ⟨b1, b2, b3, b4, b5, ben⟩ := encT_shape b
  have bsy := sRSym_at b
  rw [ben] at bsy
  have hr : rFun [a, b] = (false, zC) := by cases b <;> rfl
  rw [hr]
  simp [lf34, Trp_mu, Trp_1, Trp_2, RP, encT, encL, sym_head, txtT_tx, binS, fillA, sizeOk_cons, sizeOk_tree, sizeOk_nil, sizeOk_enc, encC_z, aen, asy, ben]
 | a :: b :: c :: d :: r, _ =>
  obtain ⟨a1, a2, a3, a4, a5, aen⟩ := encT_shape a
  have asy := sRSym_at a
  rw [aen] at asy
  have hr : rFun (a :: b :: c :: d :: r) = (false, zC) := by cases b <;> rfl
  rw [hr]
  have e0 : (((encL r).length : Int) + 1 + 1 + 1 + 1 + 1 == 0) = false := by simp <;> omega
  have e3 : ((0 : Int) < (encL r).length + 1 + 1 + 1 + 1) = True := by simp <;> omega
  have e4 : (((encL r).length : Int) + 1 + 1 + 1 + 1 + 1).toNat = (encL r).length + 5 := by omega
  have e5 : ((1 : Int) ≤ (encL r).length + 1 + 1 + 1 + 1 + 1) = True := by simp <;> omega
  have e1 : (((encL r).length : Int) + 1 + 1 + 1 + 1 != 3) = true := by simp <;> omega
  simp [lf34, Trp_mu, Trp_1, Trp_2, RP, encT, encL, sym_head, txtT_tx, binS, fillA, sizeOk_cons, sizeOk_tree, sizeOk_nil, sizeOk_enc, encC_z, aen, asy, e0, e1, e3, e4, e5]
 | [a, .leaf w, c], _ =>
  obtain ⟨a1, a2, a3, a4, a5, aen⟩ := encT_shape a
  have asy := sRSym_at a
  rw [aen] at asy
  obtain ⟨c1, c2, c3, c4, c5, cen⟩ := encT_shape c
  have csy := sRSym_at c
  rw [cen] at csy
  simp [lf34, Trp_mu, Trp_1, Trp_2, RP, encT, encL, sym_head, txtT_tx, binS, fillA, sizeOk_cons, sizeOk_tree, sizeOk_nil, sizeOk_enc, rFun, encC_z, aen, asy, cen]
 | [a, .list ks, c], hsz =>
  obtain ⟨a1, a2, a3, a4, a5, aen⟩ := encT_shape a
  have asy := sRSym_at a
  rw [aen] at asy
  obtain ⟨c1, c2, c3, c4, c5, cen⟩ := encT_shape c
  have csy := sRSym_at c
  rw [cen] at csy
  have hks : ks.length ≤ 1000000 := by
   have := len_size ks
   simp only [sizeL, Tr.size] at hsz
   omega
  simp [lf34, Trp_mu, Trp_1, Trp_2, RP, encT, encL, sym_head, txtT_tx, binS, fillA, sizeOk_cons, sizeOk_tree, sizeOk_nil, sizeOk_enc, aen, asy, cen]
  simp only [lf34_B0, vc_block]
  refine loop_ind (fun fr H => ∃ (i : Nat) (x : AVal), i ≤ ks.length ∧ fr 2 = .optr 1 0 0 0 ∧ fr 6 = .p (.lst [.agg [.bool a1, .int .i64 a2, .str a3, .int .i64 a4, .lst a5], .agg [.bool true, .int .i64 0, .str [], .int .i64 0, .lst (encL ks)], .agg [.bool c1, .int .i64 c2, .str c3, .int .i64 c4, .lst c5]]) ∧ fr 9 = .p (.bool (sb a)) ∧ fr 15 = .optr 2 0 0 0 ∧ fr 16 = .p (.int .i64 (i : Int)) ∧
    H[1]? = some ⟨11, 0, false, [.agg [.p (.int .i64 0), .p (.str []), .tight [], .p (.str []), .p (.bool false), .p (.int .i64 0), .p (.str []), .p (.int .i64 0), .tight [], .tight [], .p (.int .i64 0)]], 40⟩ ∧ H[2]? = some ⟨11, 0, false, [.agg [.p (.int .i64 5), .p (.str (tx a)), x, .p (.str []), .p (.bool false), .p (.int .i64 0), .p (.str []), .p (.int .i64 0), .tight [], .tight [], .p (.int .i64 0)]], 40⟩ ∧ OutQ 3 x H ((ks.take i).map (fun t => ([], tx t))) ∧ 3 ≤ H.length ∧ (ks.take i).all sb = true)
   (fun fr _ => ks.length - ivar (fr 16)) ⟨0, .tight [], by simp, by simp, by simp, by simp, by simp, by simp, by simp, by simp, .inl ⟨rfl, rfl⟩, by simp, by simp⟩ ?_
  rintro fr H ⟨i, x, hi, f2, f6, f9, f15, f16, g1, g2, g3, g4, hall⟩
  by_cases hlt : i < ks.length
  ·obtain ⟨t, hti⟩ : ∃ t, ks[i]? = some t := ⟨_, List.getElem?_eq_getElem hlt⟩
   have hgt := encL_get hti
   have hsy := sRSym_at t
   obtain ⟨tb, tk, ts, ta, tvs, ten⟩ := encT_shape t
   rw [ten, txtT_tx] at hsy
   rw [ten] at hgt
   have hgt' := getE hgt
   cases hbt : sb t with
   | false =>
    rw [hbt] at hsy
    have hno : ks.all sb = false := by
     rw [List.all_eq_false]
     exact ⟨t, List.mem_of_getElem? hti, by simp [hbt]⟩
    have gs : ∀ e : Ent, (H.set 1 e)[1]? = some e := fun e => List.getElem?_set_self (by omega)
    simp [f2, f6, f15, f16, g1, gs, encL_len, hlt, hgt, hgt', hsy, rFun, hno, encC_z, fillA]
   | true =>
    rw [hbt] at hsy
    have hnx : ((ks.take (i + 1)).map (fun t => (([], tx t) : Par))) = (ks.take i).map (fun t => ([], tx t)) ++ [([], tx t)] := by
     rw [take_next hti, List.map_append]; rfl
    have hall' : (ks.take (i + 1)).all sb = true := by
     rw [take_next hti, List.all_append, hall]
     show (true && [t].all sb) = true
     rw [List.all_cons, hbt]; rfl
    obtain ⟨x', H', e1, e2, e3, e4⟩ := (g3.keep (H' := H ++ [parF 0 false [([], tx t)]]) fun j hj _ => by rw [List.getElem?_append_left hj]).app (by simp; omega) (by rw [List.length_map, List.length_take]; omega) ([], tx t)
    rw [← hnx] at e2
    have hln : ((ks.take (i + 1)).map (fun t => (([], tx t) : Par))).length = i + 1 := by rw [List.length_map, List.length_take]; omega
    generalize hLd : (ks.take (i + 1)).map (fun t => (([], tx t) : Par)) = L at *
    have ga : ∀ (k : Nat) (E : Heap), k < 3 → (H ++ E)[k]? = H[k]? := fun k E hk => List.getElem?_append_left (by omega)
    have b1 := (e4 1 (by omega)).trans ((ga 1 _ (by omega)).trans g1)
    have b2 := (e4 2 (by omega)).trans ((ga 2 _ (by omega)).trans g2)
    have hl3 : 3 ≤ H'.length := by simp at e3; omega
    unfold parF parP at e1
    simp only [List.map_cons, List.map_nil] at e1
    rcases e2 with ⟨_, hnil⟩ | ⟨j', ver', fz', q1, rfl, q3⟩
    ·rw [hnil] at hln; simp at hln
    simp [f2, f6, f15, f16, g1, g2, ga, encL_len, hlt, hgt, hgt', hsy, e1, b2, fillS, fillA, -appV, -List.map_take, wrap_succ (i := i) (by omega)]
    exact ⟨⟨i + 1, by omega, f9, by simp, b1, _, List.getElem?_set_self (by omega), by rw [hLd]; exact .inr ⟨j', ver', fz', q1, rfl, by rw [List.getElem?_set_ne (by omega)]; exact q3⟩, hl3, fun x hx => List.all_eq_true.1 hall' x hx⟩, by simp only [ivar]; omega⟩
  ·have hil : i = ks.length := by omega
   subst hil
   rw [List.take_length] at g3 hall
   have gs1 : ∀ e f : Ent, ((H.set 2 e).set 1 f)[1]? = some f := fun e f => List.getElem?_set_self (by rw [List.length_set]; omega)
   have gs2 : ∀ e : Ent, (H.set 2 e)[1]? = H[1]? := fun e => List.getElem?_set_ne (by omega)
   have gs3 : ∀ e : Ent, (H.set 2 e)[2]? = some e := fun e => List.getElem?_set_self (by omega)
   have hres := fun e f : Ent => (g3.keep (H' := (H.set 2 e).set 1 f) fun j hj h3 => by rw [List.getElem?_set_ne (by omega), List.getElem?_set_ne (by omega)]).res 4
   have hrs : ∀ (H : Heap) (x : PVal), resolveV H 7 (.p x) = some x := fun _ _ => rfl
   have hr6 : ∀ (H : Heap) (x : PVal), resolveV H 6 (.p x) = some x := fun _ _ => rfl
   have hr8 : ∀ (H : Heap) (x : PVal), resolveV H 8 (.p x) = some x := fun _ _ => rfl
   have hrt : ∀ (H : Heap) (l : List PVal), resolveV H 6 (.tight l) = some (.lst l) := fun _ _ => rfl
   have hag : ∀ (H : Heap) (l : List AVal), resolveV H 7 (.agg l) = (match mapO (resolveV H 6) l with | some ps => some (.agg ps) | none => none) := fun _ _ => rfl
   have htp : ∀ (H : Heap) (l : List AVal), resolveV H 8 (.tup l) = (match mapO (resolveV H 7) l with | some ps => some (.tup ps) | none => none) := fun _ _ => rfl
   have he : encC { c0 zW 5 with name := tx a, params := ks.map (fun t => ([], tx t)), result := tx c } = .agg [.int .i64 5, .str (tx a), .lst ((ks.map (fun t => (([], tx t) : Par))).map parP), .str (tx c), .bool false, .int .i64 0, .str [], .int .i64 0, .lst [], .lst [], .int .i64 0] := rfl
   have hrf : rFun [a, .list ks, c] = (sb a && sb c, { c0 zW 5 with name := tx a, params := ks.map (fun t => ([], tx t)), result := tx c }) := by
    show (if ks.all sb = true then _ else _) = _
    rw [if_pos hall]
   rw [hrf]
   simp only [he]
   rw [txtT_tx] at csy
   generalize ks.map (fun t => (([], tx t) : Par)) = L at *
   generalize sb a = ba at *
   generalize sb c = bc at *
   rcases g3 with ⟨rfl, hnil⟩ | ⟨j', ver', fz', q1, rfl, q3⟩
   ·subst hnil
    cases ba <;> simp [f2, f6, f9, f15, f16, g1, g2, gs1, gs2, gs3, encL_len, csy, fillA]
   ·cases ba
    all_goals
     simp [f2, f6, f9, f15, f16, g1, g2, gs1, gs2, gs3, encL_len, csy, fillA, hr8, -resolveV]
     rw [htp]
     simp only [mapO, hag, hrs, hr6, hrt, hres]
end Go.Proofs.YtcbagnlidecmkaaGreatDoor

/-
 The reference's Parse: definitions.
-/
namespace Go.Proofs.YtcbagnlidecmkaaGreatDoor
open Go Go.Abs Go.Lex Go.Sexp
set_option maxRecDepth 20000
attribute [local irreducible] vc
attribute [local simp] pureS touchV freezeL fuel shiftV Trp_mu Trp_1 Trp_2
def LowP (fr fr' : AFr) : Prop := ∀ t, t < 28 → t ≠ 25 → fr' t = fr t
theorem LowP.refl (fr : AFr) : LowP fr fr := fun _ _ _ => rfl
theorem LowP.upd {fr fr' : AFr} (h : LowP fr fr') {d : Nat} {v : AVal} (hd : 28 ≤ d ∨ d = 25) : LowP fr (upd fr' d v) := fun t h1 h2 => by
 show (if t = d then v else fr' t) = fr t
 rw [if_neg (by omega)]
 exact h t h1 h2
theorem mem_next {acc : List Par} {j : Nat} {q : Par} {s : List UInt8} (h : acc[j]? = some q) : ((acc.take (j + 1)).map Prod.fst).contains s = (((acc.take j).map Prod.fst).contains s || (q.1 == s)) := by
 rw [List.take_add_one, h, List.map_append]
 show ((acc.take j).map Prod.fst ++ [q.1]).contains s = _
 rw [Bool.eq_iff_iff]
 simp only [List.contains_iff_mem, List.mem_append, List.mem_singleton, Bool.or_eq_true, beq_iff_eq]
 constructor <;> rintro (h | h) <;> first | exact .inl h | exact .inr h.symm
theorem par_loop {Q : LExit → AFr → Heap → Prop} {fr : AFr} {H : Heap} {x : AVal} {acc : List Par} {s : List UInt8} {b : Bool} {cs : List AVal} {s0 : List UInt8} (hcs : cs.length = 8)
  (f21 : fr 21 = .optr 2 0 0 0) (g2 : H[2]? = some ⟨11, 0, false, [.agg ([.p (.int .i64 6), .p (.str s0), x] ++ cs)], 40⟩) (g3 : OutQ 3 x H acc) (hacc : acc.length ≤ 1000000)
  (f24 : fr 24 = .p (.str s)) (f25 : fr 25 = .p (.bool b)) (f28 : fr 28 = .p (.int .i64 0))
  (hq : ∀ fr', LowP fr fr' → fr' 25 = .p (.bool (b && !(acc.map Prod.fst).contains s)) → Q .normal fr' H) : vc Trp lf34_B1 Q fr H := by
 simp only [lf34_B1, vc_block]
 refine loop_ind (fun fr1 H1 => ∃ j : Nat, H1 = H ∧ j ≤ acc.length ∧ LowP fr fr1 ∧ fr1 28 = .p (.int .i64 (j : Int)) ∧ fr1 25 = .p (.bool (b && !((acc.take j).map Prod.fst).contains s))) (fun fr1 _ => acc.length - ivar (fr1 28)) ⟨0, rfl, Nat.zero_le _, LowP.refl _, f28, by rw [f25]; simp⟩ ?_
 rintro fr1 H1 ⟨j, rfl, hj, hl, h28, h25⟩
 have h21 : fr1 21 = .optr 2 0 0 0 := by rw [hl 21 (by omega) (by omega)]; exact f21
 have h24 : fr1 24 = .p (.str s) := by rw [hl 24 (by omega) (by omega)]; exact f24
 match cs, hcs with
 | [c0, c1, c2, c3, c4, c5, c6, c7], _ =>
 simp only [List.cons_append, List.nil_append] at g2
 rcases g3 with ⟨rfl, rfl⟩ | ⟨j', ver', fz', q1, rfl, q3⟩
 ·have : j = 0 := by simpa using hj
  subst this
  simp [h21, h28, g2]
  refine hq _ ?_ ?_
  ·repeat (first | exact hl | refine LowP.upd ?_ (by decide))
  ·simp [h25]
 ·have q3' := q3
  unfold parF at q3'
  by_cases hlt : j < acc.length
  ·obtain ⟨q, hqj⟩ : ∃ q, acc[j]? = some q := ⟨_, List.getElem?_eq_getElem hlt⟩
   have hqj' := getE hqj
   have hct := mem_next (s := s) hqj
   have hp : parP q = .agg [.str q.1, .str q.2] := rfl
   generalize ((acc.take j).map Prod.fst).contains s = cj at *
   cases b with
   | false =>
    simp at h25
    simp [h21, h24, h25, h28, g2, q3', hlt, wrap_succ (i := j) (by omega)]
    refine ⟨⟨j + 1, by omega, ?_, by simp⟩, by simp only [ivar]; omega⟩
    repeat (first | exact hl | refine LowP.upd ?_ (by decide))
   | true =>
    cases cj with
    | true =>
     simp at h25
     simp [h21, h24, h25, h28, g2, q3', hlt, wrap_succ (i := j) (by omega)]
     refine ⟨⟨j + 1, by omega, ?_, by simp, by simpa using hct⟩, by simp only [ivar]; omega⟩
     repeat (first | exact hl | refine LowP.upd ?_ (by decide))
    | false =>
     simp at h25
     simp [h21, h24, h25, h28, g2, q3', hlt, hqj, hqj', hp, binS, wrap_succ (i := j) (by omega)]
     refine ⟨⟨j + 1, by omega, ?_, by simp, by simpa using hct.symm⟩, by simp only [ivar]; omega⟩
     repeat (first | exact hl | refine LowP.upd ?_ (by decide))
  ·have hjl : j = acc.length := by omega
   subst hjl
   rw [List.take_length] at h25
   simp [h21, h28, g2, q3']
   refine hq _ ?_ ?_
   ·repeat (first | exact hl | refine LowP.upd ?_ (by decide))
   ·simp [h25]
theorem pars_step {t : Tr Wd} {r : List (Tr Wd)} {acc : List Par} : pars key (t :: r) acc = (match parT key t with
  | some q => if (acc.map Prod.fst).contains q.1 = true then none else pars key r (acc ++ [q])
  | none => none) := rfl
theorem parT_two (a b : Tr Wd) : parT key (.list [a, b]) = if (sb a && sb b) = true then some (tx a, tx b) else none := by
 simp only [parT, sym_tx]
 cases sb a <;> cases sb b <;> rfl
theorem parT_else {ks : List (Tr Wd)} (h : ks.length ≠ 2) : parT key (.list ks) = none := by
 match ks with
 | [] => rfl
 | [_] => rfl
 | [_, _] => simp at h
 | _ :: _ :: _ :: _ => rfl
theorem rp_6 (p : Nat) (l : List (Tr Wd)) (hsz : sizeL l ≤ 1000000) : RP (.list (.leaf ⟨3, [100, 101, 102, 105, 110, 101, 45, 102, 117, 110], p⟩ :: l)) (rDef l) := by
 match l, hsz with
 | [], _ => simp [lf34, Trp_mu, Trp_1, Trp_2, RP, encT, encL, sym_head, txtT_tx, binS, fillA, sizeOk_cons, sizeOk_tree, sizeOk_nil, sizeOk_enc, rDef, encC_z]
 | [a], _ =>
  obtain ⟨a1, a2, a3, a4, a5, aen⟩ := encT_shape a
  have asy := sRSym_at a
  rw [aen] at asy
  have hr : rDef [a] = (false, zC) := by rfl
  rw [hr]
  simp [lf34, Trp_mu, Trp_1, Trp_2, RP, encT, encL, sym_head, txtT_tx, binS, fillA, sizeOk_cons, sizeOk_tree, sizeOk_nil, sizeOk_enc, encC_z, aen, asy]
 | [a, b], _ =>
  obtain ⟨a1, a2, a3, a4, a5, aen⟩ := encT_shape a
  have asy := sRSym_at a
  rw [aen] at asy
  obtain ⟨b1, b2, b3, b4, b5, ben⟩ := encT_shape b
  have bsy := sRSym_at b
  rw [ben] at bsy
  have hr : rDef [a, b] = (false, zC) := by cases b <;> rfl
  rw [hr]
  simp [lf34, Trp_mu, Trp_1, Trp_2, RP, encT, encL, sym_head, txtT_tx, binS, fillA, sizeOk_cons, sizeOk_tree, sizeOk_nil, sizeOk_enc, encC_z, aen, ben, asy]
 | [a, b, c], _ =>
  obtain ⟨a1, a2, a3, a4, a5, aen⟩ := encT_shape a
  have asy := sRSym_at a
  rw [aen] at asy
  obtain ⟨b1, b2, b3, b4, b5, ben⟩ := encT_shape b
  have bsy := sRSym_at b
  rw [ben] at bsy
  obtain ⟨c1, c2, c3, c4, c5, cen⟩ := encT_shape c
  have csy := sRSym_at c
  rw [cen] at csy
  have hr : rDef [a, b, c] = (false, zC) := by cases b <;> rfl
  rw [hr]
  simp [lf34, Trp_mu, Trp_1, Trp_2, RP, encT, encL, sym_head, txtT_tx, binS, fillA, sizeOk_cons, sizeOk_tree, sizeOk_nil, sizeOk_enc, encC_z, aen, ben, cen, asy]
 | a :: b :: c :: d :: e :: r, _ =>
  obtain ⟨a1, a2, a3, a4, a5, aen⟩ := encT_shape a
  have asy := sRSym_at a
  rw [aen] at asy
  have hr : rDef (a :: b :: c :: d :: e :: r) = (false, zC) := by cases b <;> rfl
  rw [hr]
  have e0 : (((encL r).length : Int) + 1 + 1 + 1 + 1 + 1 + 1 == 0) = false := by simp <;> omega
  have e3 : ((0 : Int) < (encL r).length + 1 + 1 + 1 + 1 + 1) = True := by simp <;> omega
  have e4 : (((encL r).length : Int) + 1 + 1 + 1 + 1 + 1 + 1).toNat = (encL r).length + 6 := by omega
  have e5 : ((1 : Int) ≤ (encL r).length + 1 + 1 + 1 + 1 + 1 + 1) = True := by simp <;> omega
  have e1 : (((encL r).length : Int) + 1 + 1 + 1 + 1 + 1 != 4) = true := by simp <;> omega
  simp [lf34, Trp_mu, Trp_1, Trp_2, RP, encT, encL, sym_head, txtT_tx, binS, fillA, sizeOk_cons, sizeOk_tree, sizeOk_nil, sizeOk_enc, encC_z, aen, asy, e0, e1, e3, e4, e5]
 | [a, .leaf w, c, d], _ =>
  obtain ⟨a1, a2, a3, a4, a5, aen⟩ := encT_shape a
  have asy := sRSym_at a
  rw [aen] at asy
  obtain ⟨c1, c2, c3, c4, c5, cen⟩ := encT_shape c
  have csy := sRSym_at c
  rw [cen] at csy
  obtain ⟨d1, d2, d3, d4, d5, den⟩ := encT_shape d
  have dsy := sRSym_at d
  rw [den] at dsy
  simp [lf34, Trp_mu, Trp_1, Trp_2, RP, encT, encL, sym_head, txtT_tx, binS, fillA, sizeOk_cons, sizeOk_tree, sizeOk_nil, sizeOk_enc, rDef, encC_z, aen, asy, cen, den]
 | [a, .list ks, c, d], hsz =>
  obtain ⟨a1, a2, a3, a4, a5, aen⟩ := encT_shape a
  have asy := sRSym_at a
  rw [aen] at asy
  obtain ⟨c1, c2, c3, c4, c5, cen⟩ := encT_shape c
  have csy := sRSym_at c
  rw [cen] at csy
  obtain ⟨d1, d2, d3, d4, d5, den⟩ := encT_shape d
  have dsy := sRSym_at d
  rw [den] at dsy
  have hks : ks.length ≤ 1000000 := by
   have := len_size ks
   simp only [sizeL, Tr.size] at hsz
   omega
  simp [lf34, Trp_mu, Trp_1, Trp_2, RP, encT, encL, sym_head, txtT_tx, binS, fillA, sizeOk_cons, sizeOk_tree, sizeOk_nil, sizeOk_enc, aen, asy, cen, den]
  simp only [lf34_B2, vc_block]
  refine loop_ind (fun fr H => ∃ (i : Nat) (x : AVal) (acc : List Par), i ≤ ks.length ∧ fr 2 = .optr 1 0 0 0 ∧ fr 6 = .p (.lst [.agg [.bool a1, .int .i64 a2, .str a3, .int .i64 a4, .lst a5], .agg [.bool true, .int .i64 0, .str [], .int .i64 0, .lst (encL ks)], .agg [.bool c1, .int .i64 c2, .str c3, .int .i64 c4, .lst c5], .agg [.bool d1, .int .i64 d2, .str d3, .int .i64 d4, .lst d5]]) ∧ fr 9 = .p (.bool (sb a)) ∧ fr 21 = .optr 2 0 0 0 ∧ fr 22 = .p (.int .i64 (i : Int)) ∧
    H[1]? = some ⟨11, 0, false, [.agg [.p (.int .i64 0), .p (.str []), .tight [], .p (.str []), .p (.bool false), .p (.int .i64 0), .p (.str []), .p (.int .i64 0), .tight [], .tight [], .p (.int .i64 0)]], 40⟩ ∧ H[2]? = some ⟨11, 0, false, [.agg [.p (.int .i64 6), .p (.str (tx a)), x, .p (.str []), .p (.bool d1), .p (.int .i64 d2), .p (.str d3), .p (.int .i64 d4), .p (.lst d5), .tight [], .p (.int .i64 0)]], 40⟩ ∧ OutQ 3 x H acc ∧ 3 ≤ H.length ∧ acc.length ≤ i ∧ pars key ks [] = pars key (ks.drop i) acc)
   (fun fr _ => ks.length - ivar (fr 22)) ⟨0, .tight [], [], by simp, by simp, by simp, by simp, by simp, by simp, by simp, by simp, .inl ⟨rfl, rfl⟩, by simp, by simp, by simp⟩ ?_
  rintro fr H ⟨i, x, acc, hi, f2, f6, f9, f21, f22, g1, g2, g3, g4, hai, hps⟩
  have gs : ∀ e : Ent, (H.set 1 e)[1]? = some e := fun e => List.getElem?_set_self (by omega)
  have hfail : pars key ks [] = none → rDef [a, .list ks, c, d] = (false, zC) := fun h => by
   show (match pars key ks [] with | some q => (sb a && sb c, { c0 zW 6 with name := tx a, params := q, result := tx c, term := d }) | none => (false, zC)) = _
   rw [h]
  by_cases hlt : i < ks.length
  ·obtain ⟨t, hti⟩ : ∃ t, ks[i]? = some t := ⟨_, List.getElem?_eq_getElem hlt⟩
   have hgt := encL_get hti
   have hdr : ks.drop i = t :: ks.drop (i + 1) := by
    rw [List.drop_eq_getElem_cons hlt, getE hti]
   rw [hdr, pars_step] at hps
   have gsn : ∀ e f : Ent, ((H ++ [e]).set 1 f)[1]? = some f := fun e f => List.getElem?_set_self (by simp; omega)
   have g1n : ∀ e : Ent, (H ++ [e])[1]? = H[1]? := fun e => List.getElem?_append_left (by omega)
   have g2n : ∀ e : Ent, (H ++ [e])[2]? = H[2]? := fun e => List.getElem?_append_left (by omega)
   match t, hgt, hps with
   | .leaf w, hgt, hps =>
    rw [hfail hps]
    simp only [encT] at hgt
    have hgt' := getE hgt
    simp [f2, f6, f21, f22, g1, g2, gs, gsn, g1n, g2n, encL_len, hlt, hgt, hgt', get_end, set_end, encC_z, fillA]
   | .list us, hgt, hps =>
    by_cases h2 : us.length = 2
    ·match us, h2 with
     | [u, v], _ =>
      rw [parT_two] at hps
      obtain ⟨u1, u2, u3, u4, u5, uen⟩ := encT_shape u
      have usy := sRSym_at u
      rw [uen, txtT_tx] at usy
      obtain ⟨v1, v2, v3, v4, v5, ven⟩ := encT_shape v
      have vsy := sRSym_at v
      rw [ven, txtT_tx] at vsy
      simp only [encT, encL, uen, ven] at hgt
      have hgt' := getE hgt
      simp [f2, f6, f21, f22, g1, g2, gsn, g1n, g2n, encL_len, hlt, hgt, hgt', get_end, set_end, usy, vsy, fillA]
      refine par_loop (acc := acc) (x := x) (s := tx u) (s0 := tx a) (b := sb u) (cs := [.p (.str []), .p (.bool d1), .p (.int .i64 d2), .p (.str d3), .p (.int .i64 d4), .p (.lst d5), .tight [], .p (.int .i64 0)]) rfl (by simp [f21]) (by rw [g2n, g2]; rfl) (g3.keep fun j hj _ => List.getElem?_append_left hj) (by omega) (by simp) (by simp) (by simp) fun fr' hl h25 => ?_
      have k2 := hl 2 (by omega) (by omega)
      have k6 := hl 6 (by omega) (by omega)
      have k9 := hl 9 (by omega) (by omega)
      have k21 := hl 21 (by omega) (by omega)
      have k22 := hl 22 (by omega) (by omega)
      have k24 := hl 24 (by omega) (by omega)
      have k26 := hl 26 (by omega) (by omega)
      have k27 := hl 27 (by omega) (by omega)
      simp [f2] at k2
      simp [f6] at k6
      simp [f9] at k9
      simp [f21] at k21
      simp [f22] at k22
      simp at k24
      simp at k26
      simp at k27
      clear hl
      have hpf : (sb u && !(acc.map Prod.fst).contains (tx u) && sb v) = false → rDef [a, .list ks, c, d] = (false, zC) := fun h => hfail (by
       rw [hps]
       by_cases hb : (sb u && sb v) = true
       ·rw [if_pos hb]
        have hcn : (acc.map Prod.fst).contains (tx u) = true := by
         simp only [Bool.and_eq_true] at hb
         rw [hb.1, hb.2] at h
         simpa using h
        show (if (acc.map Prod.fst).contains (tx u) = true then none else _) = none
        rw [if_pos hcn]
       ·rw [if_neg hb])
      cases hok : (sb u && !(acc.map Prod.fst).contains (tx u)) with
      | false =>
       rw [hok] at h25
       rw [hpf (by rw [hok]; rfl)]
       simp [k2, h25, gsn, g1n, g1, encC_z, fillA]
      | true =>
       rw [hok] at h25
       cases hbv : sb v with
       | false =>
        rw [hpf (by rw [hbv]; simp)]
        rw [hbv] at k27
        simp [k2, h25, k27, gsn, g1n, g1, encC_z, fillA]
       | true =>
        rw [hbv] at k27
        have hps2 : pars key ks [] = pars key (ks.drop (i + 1)) (acc ++ [(tx u, tx v)]) := by
         rw [hps]
         simp only [Bool.and_eq_true, Bool.not_eq_true'] at hok
         rw [hok.1, hbv]
         simp only [Bool.and_self, if_true, hok.2, Bool.false_eq_true, if_false]
        obtain ⟨x', H', e1, e2, e3, e4⟩ := (g3.keep (H' := H ++ [⟨5, 0, false, [.p (.agg [.bool true, .int .i64 0, .str [], .int .i64 0, .lst [.agg [.bool u1, .int .i64 u2, .str u3, .int .i64 u4, .lst u5], .agg [.bool v1, .int .i64 v2, .str v3, .int .i64 v4, .lst v5]]])], 29⟩, parF 0 false [(tx u, tx v)]]) fun j hj _ => by rw [List.getElem?_append_left hj]).app (by simp; omega) (by omega) (tx u, tx v)
        have ga : ∀ (k : Nat) (E : Heap), k < 3 → (H ++ E)[k]? = H[k]? := fun k E hk => List.getElem?_append_left (by omega)
        have b1 := (e4 1 (by omega)).trans ((ga 1 _ (by omega)).trans g1)
        have b2 := (e4 2 (by omega)).trans ((ga 2 _ (by omega)).trans g2)
        have hl3 : 3 ≤ H'.length := by simp at e3; omega
        unfold parF parP at e1
        simp only [List.map_cons, List.map_nil] at e1
        rcases e2 with ⟨_, hnil⟩ | ⟨j', ver', fz', q1, rfl, q3⟩
        ·have := congrArg List.length hnil
         simp at this
        simp [k2, k21, k22, k24, k26, h25, k27, gsn, g1n, g2n, g1, g2, e1, b2, fillS, fillA, -appV, wrap_succ (i := i) (by omega)]
        exact ⟨⟨i + 1, by omega, k6, k9, by simp, b1, _, List.getElem?_set_self (by omega), acc ++ [(tx u, tx v)], .inr ⟨j', ver', fz', q1, by simp, by rw [List.getElem?_set_ne (by omega)]; exact q3⟩, hl3, by simp; omega, hps2⟩, by simp only [ivar]; omega⟩
    ·rw [parT_else h2] at hps
     rw [hfail hps]
     simp only [encT] at hgt
     have hgt' := getE hgt
     have h2' : ((us.length : Int) != 2) = true := by simp; omega
     simp [f2, f6, f21, f22, g1, g2, gs, gsn, g1n, g2n, encL_len, hlt, hgt, hgt', get_end, set_end, encC_z, fillA, h2']
  ·have hil : i = ks.length := by omega
   subst hil
   rw [List.drop_length] at hps
   have hps : pars key ks [] = some acc := hps
   have gs1 : ∀ e f : Ent, ((H.set 2 e).set 1 f)[1]? = some f := fun e f => List.getElem?_set_self (by rw [List.length_set]; omega)
   have gs2 : ∀ e : Ent, (H.set 2 e)[1]? = H[1]? := fun e => List.getElem?_set_ne (by omega)
   have gs3 : ∀ e : Ent, (H.set 2 e)[2]? = some e := fun e => List.getElem?_set_self (by omega)
   have hres := fun e f : Ent => (g3.keep (H' := (H.set 2 e).set 1 f) fun j hj h3 => by rw [List.getElem?_set_ne (by omega), List.getElem?_set_ne (by omega)]).res 4
   have hrs : ∀ (H : Heap) (x : PVal), resolveV H 7 (.p x) = some x := fun _ _ => rfl
   have hr6 : ∀ (H : Heap) (x : PVal), resolveV H 6 (.p x) = some x := fun _ _ => rfl
   have hr8 : ∀ (H : Heap) (x : PVal), resolveV H 8 (.p x) = some x := fun _ _ => rfl
   have hrt : ∀ (H : Heap) (l : List PVal), resolveV H 6 (.tight l) = some (.lst l) := fun _ _ => rfl
   have hag : ∀ (H : Heap) (l : List AVal), resolveV H 7 (.agg l) = (match mapO (resolveV H 6) l with | some ps => some (.agg ps) | none => none) := fun _ _ => rfl
   have htp : ∀ (H : Heap) (l : List AVal), resolveV H 8 (.tup l) = (match mapO (resolveV H 7) l with | some ps => some (.tup ps) | none => none) := fun _ _ => rfl
   have he : encC ({ c0 zW 6 with name := tx a, params := acc, result := tx c, term := d } : Cmd Wd) = .agg [.int .i64 6, .str (tx a), .lst (acc.map parP), .str (tx c), .bool d1, .int .i64 d2, .str d3, .int .i64 d4, .lst d5, .lst [], .int .i64 0] := encC_at den
   have hrf : rDef [a, .list ks, c, d] = (sb a && sb c, { c0 zW 6 with name := tx a, params := acc, result := tx c, term := d }) := by
    show (match pars key ks [] with | some q => (sb a && sb c, { c0 zW 6 with name := tx a, params := q, result := tx c, term := d }) | none => (false, zC)) = _
    rw [hps]
   rw [hrf]
   simp only [he]
   rw [txtT_tx] at csy
   generalize sb a = ba at *
   generalize sb c = bc at *
   rcases g3 with ⟨rfl, hnil⟩ | ⟨j', ver', fz', q1, rfl, q3⟩
   ·subst hnil
    cases ba <;> simp [f2, f6, f9, f21, f22, g1, g2, gs1, gs2, gs3, encL_len, csy, fillA]
   ·cases ba
    all_goals
     simp [f2, f6, f9, f21, f22, g1, g2, gs1, gs2, gs3, encL_len, csy, fillA, hr8, -resolveV]
     rw [htp]
     simp only [mapO, hag, hrs, hr6, hrt, hres]
end Go.Proofs.YtcbagnlidecmkaaGreatDoor

/-
 The reference's Parse and Whole.
-/
namespace Go.Proofs.YtcbagnlidecmkaaGreatDoor
open Go Go.Abs Go.Lex Go.Sexp
set_option maxRecDepth 20000
attribute [local irreducible] vc
attribute [local simp] pureS touchV freezeL fuel shiftV
variable {base : Prot}
theorem kind_zero {s : List UInt8} (h : kindOf s = 0) : s ∉ nmList := by
 unfold kindOf at h
 split at h
 ·omega
 ·rename_i hn
  exact List.idxOf?_eq_none_iff.1 hn
theorem rp_all (t : Tr Wd) (hsz : t.size ≤ 1000000) : RP t (rPar t) := by
 match t, hsz with
 | .leaf w, _ => exact rp_leaf w
 | .list [], _ => exact rp_nil
 | .list (h :: l), hsz =>
  have hl : sizeL l ≤ 1000000 := by simp only [Tr.size, sizeL] at hsz; omega
  cases hb : sb h with
  | false =>
   have e : rPar (.list (h :: l)) = (false, zC) := by
    show (if sb h = true then _ else _) = _
    rw [hb]; rfl
   rw [e]
   exact rp_head h l hb
  | true =>
   have e : rPar (.list (h :: l)) = if tx h = declConst then rConst l else rK (kindOf (tx h)) l := by
    show (if sb h = true then _ else _) = _
    rw [hb]; rfl
   rw [e]
   match h, hb with
   | .list _, hb => cases hb
   | .leaf ⟨k, s, p⟩, hb =>
    have hk : k = 3 := by
     by_cases hk : k = 3
     ·exact hk
     ·have : sb (.leaf ⟨k, s, p⟩) = false := by
       show (if k = 3 then some s else none).isSome = false
       rw [if_neg hk]; rfl
      rw [this] at hb; cases hb
    subst hk
    have e2 : tx (.leaf ⟨3, s, p⟩) = s := rfl
    rw [e2]
    by_cases hc : s = declConst
    ·rw [if_pos hc, hc]; exact rp_c p l
    ·rw [if_neg hc]
     by_cases h0 : kindOf s = 0
     ·rw [h0]
      have hno := kind_zero h0
      have e3 : rK 0 l = (false, zC) := rfl
      rw [e3]
      refine rp_other s p l fun x hx => ?_
      rcases List.mem_cons.1 hx with rfl | hx
      ·simpa using hc
      ·have : s ≠ x := fun he => hno (he ▸ hx)
       simpa using this
     ·have hn := kindOf_name h0
      have hle := kindOf_le s
      generalize kindOf s = kd at *
      subst hn
      have hcs : kd = 1 ∨ kd = 2 ∨ kd = 3 ∨ kd = 4 ∨ kd = 5 ∨ kd = 6 ∨ kd = 7 ∨ kd = 8 ∨ kd = 9 ∨ kd = 10 ∨ kd = 11 ∨ kd = 12 ∨ kd = 13 ∨ kd = 14 ∨ kd = 15 := by omega
      rcases hcs with rfl | rfl | rfl | rfl | rfl | rfl | rfl | rfl | rfl | rfl | rfl | rfl | rfl | rfl | rfl
      ·exact rp_1 p l
      ·exact rp_2 p l
      ·exact rp_3 p l
      ·exact rp_4 p l
      ·exact rp_5 p l hl
      ·exact rp_6 p l hl
      ·exact rp_7 p l
      ·exact rp_8 p l
      ·exact rp_9 p l
      ·exact rp_10 p l
      ·exact rp_11 p l
      ·exact rp_12 p l
      ·exact rp_13 p l
      ·exact rp_14 p l
      ·exact rp_15 p l
def sRPar : List PVal → Option PVal
 | [v] => match decT v with
  | some t => if t.size ≤ 1000000 then some (.tup [encC (rPar t).2, .bool (rPar t).1]) else none
  | none => none
 | _ => none
theorem rparse_ok : FnOk Tryz.prog base 34 (pureS sRPar) := by
 refine pure_of_vc hmix Trp_ok globNone low34 fun args x hs hf => ?_
 unfold sRPar at hs
 split at hs
 case h_2 => cases hs
 split at hs
 case h_2 => cases hs
 rename_i t hd
 split at hs
 case isFalse => cases hs
 rename_i hsz
 have := decT_some hd
 subst this
 cases hs
 exact ⟨by simp [lf34], rp_all t hsz⟩
def outW : Option (Cmd Wd) → PVal
 | some c => .tup [encC c, .bool true]
 | none => .tup [encC zC, .bool false]
def sWhole : List PVal → Option PVal
 | [v] => match decT v with
  | some t => if t.size ≤ 1000000 then some (outW (parse key zW t)) else none
  | none => none
 | _ => none
theorem sWhole_at {t : Tr Wd} (h : t.size ≤ 1000000) : sWhole [encT t] = some (outW (parse key zW t)) := by
 simp only [sWhole, decT_enc]
 rw [if_pos h]
def Twh : Tab := Tab.none.with 34 (pureS sRPar)
theorem Twh_ok : TabOk Tryz.prog base Twh := Tab.with_ok Tab.none_ok rparse_ok
theorem Twh_mu (f : FuncId) (a : List AVal) (H : Heap) : Twh.mu f a H = none := (rfl)
theorem Twh_1 : Twh.fn 34 = pureS sRPar := (rfl)
attribute [local simp] Twh_mu Twh_1
theorem whole_ok : FnOk Tryz.prog base 16 (pureS sWhole) := by
 refine pure_of_vc hmix Twh_ok globNone low16 fun args x hs hf => ?_
 unfold sWhole at hs
 split at hs
 case h_2 => cases hs
 split at hs
 case h_2 => cases hs
 rename_i t hd
 split at hs
 case isFalse => cases hs
 rename_i hsz
 have := decT_some hd
 subst this
 cases hs
 refine ⟨by simp [lf16], ?_⟩
 have hp : sRPar [encT t] = some (.tup [encC (rPar t).2, .bool (rPar t).1]) := by
  simp only [sRPar, decT_enc]
  rw [if_pos hsz]
 rw [← rPar_got]
 unfold got
 generalize rPar t = q at *
 obtain ⟨b, c⟩ := q
 obtain ⟨tb, tk, ts, ta, tvs, ten⟩ := encT_shape t
 obtain ⟨ub, uk, us, ua, uvs, uen⟩ := encT_shape c.term
 have he := encC_at uen
 simp only [ten, he] at hp
 rw [ten]
 cases b with
 | false => simp [lf16, hp, outW, encC_z, fillA]
 | true => simp [lf16, hp, outW, he, fillA]
end Go.Proofs.YtcbagnlidecmkaaGreatDoor
