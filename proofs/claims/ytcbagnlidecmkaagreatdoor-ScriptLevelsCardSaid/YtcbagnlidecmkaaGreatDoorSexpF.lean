/-
  What sexp.word and Show compute, for words of at most 100000 bytes.
-/
import Derived.Test.YtcbagnlidecmkaaGreatDoorSexpS
import Derived.Test.YtcbagnlidecmkaaGreatDoorSexpE
import Derived.Test.YtcbagnlidecmkaaGreatDoorLexC
set_option linter.unusedSimpArgs false
set_option linter.unnecessarySimpa false
set_option linter.unusedVariables false
set_option linter.constructorNameAsVariable false

/-
 strings.ReplaceAll and Join, as contracts.
-/
namespace Go.Proofs.YtcbagnlidecmkaaGreatDoor
open Go Go.Abs Go.Lex Go.Sexp
variable {base : Prot}
set_option maxRecDepth 20000
theorem ix_hit (l : List UInt8) : Lib.index (34 :: l) [34] = 0 := by unfold Lib.index; rw [if_pos (by simp)]
theorem ix_miss {b : UInt8} (hb : b ≠ 34) (l : List UInt8) : Lib.index (b :: l) [34] = if Lib.index l [34] = -1 then -1 else Lib.index l [34] + 1 := by
 conv => lhs; unfold Lib.index
 rw [if_neg (by simp [Ne.symm hb])]
 simp
theorem ct_hit (l : List UInt8) : Lib.count (34 :: l) [34] = 1 + Lib.count l [34] := Lib.count_hit (i := 0) (by simp) (ix_hit l)
theorem ct_miss {b : UInt8} (hb : b ≠ 34) (l : List UInt8) : Lib.count (b :: l) [34] = Lib.count l [34] := by
 by_cases h : Lib.index l [34] = -1
 ·rw [Lib.count_miss h, Lib.count_miss (by rw [ix_miss hb, if_pos h])]
 ·have hge := Lib.index_ge l [34]
  obtain ⟨i, hi⟩ : ∃ i : Nat, Lib.index l [34] = i := ⟨(Lib.index l [34]).toNat, by omega⟩
  rw [Lib.count_hit (by simp) hi, Lib.count_hit (i := i + 1) (by simp) (by rw [ix_miss hb, if_neg h, hi]; rfl)]
  simp [show i + 1 + 1 = (i + 1) + 1 from rfl]
theorem rk_miss {b : UInt8} (hb : b ≠ 34) (new : List UInt8) (l : List UInt8) : ∀ k, Lib.replaceK [34] new k (b :: l) = b :: Lib.replaceK [34] new k l
 | 0 => rfl
 | k + 1 => by
  have hge := Lib.index_ge l [34]
  simp only [Lib.replaceK, ix_miss hb]
  by_cases h : Lib.index l [34] = -1
  ·simp [h]
  ·obtain ⟨i, hi⟩ : ∃ i : Nat, Lib.index l [34] = i := ⟨(Lib.index l [34]).toNat, by omega⟩
   have h2 : ¬ ((i : Int) + 1 = -1) := by omega
   have h3 : ¬ ((i : Int) = -1) := by omega
   have h4 : ((i : Int) + 1).toNat = i + 1 := by omega
   simp [hi, h2, h3, h4]
theorem dbl_replace : ∀ l : List UInt8, Lib.replaceK [34] [34, 34] (Lib.count l [34]) l = dbl l
 | [] => by
  have : Lib.count [] [34] = 0 := Lib.count_miss (by simp [Lib.index])
  rw [this]; rfl
 | b :: l => by
  by_cases hb : b = 34
  ·subst hb
   rw [ct_hit, Nat.add_comm, Lib.replaceK_hit _ _ _ _ 0 (ix_hit l)]
   simp [dbl, dbl_replace l]
  ·rw [ct_miss hb, rk_miss hb, dbl_replace l]
   simp [dbl, hb]
theorem dbl_all (l : List UInt8) : Lib.replaceAll l [34] [34, 34] = dbl l := by
 unfold Lib.replaceAll Lib.replace Lib.replaceNum
 rw [if_neg (by decide), if_pos (by omega)]
 exact dbl_replace l
theorem fn_of_callsI {P : Program} {base : Prot} {f : FuncId} (hg : goodFn P f = true) {s : List PVal → Option PVal}
  (h : ∀ ps x, s ps = some x → ∀ (c : Ctx) (w : World) (vs : List Value), Inv base c [] w → vs.length = ps.length → (∀ (j : Nat) y v, ps[j]? = some y → vs[j]? = some v → PRep c.prot y v) →
   Calls P f vs.toArray w fun e w' => ∃ v, e = .returned v ∧ PRep c.prot x v ∧ Go.RowKit.Below w.heap.size w w') : FnOk P base f (pureS s) := by
 refine ⟨hg, fun args r E hs c w vs hI hr => ?_⟩
 unfold pureS at hs
 cases hx : s args with
 | none => rw [hx] at hs; cases hs
 | some x =>
  rw [hx] at hs
  cases hs
  refine (h args x hx c w vs hI (by simpa using hr.1) (fun j y v h1 h2 => ?_)).mono ?_
  ·have := hr.2 j (.p y) v (by simp [h1]) h2
   cases this with
   | p _ _ hp => exact hp
  ·rintro e w' ⟨v, rfl, hp, hbl⟩
   have hg : Grew w w' := ⟨hbl.os, hbl.tape, hbl.output, hbl.size, hbl.block⟩
   have h0 : c.locs = [] := List.length_eq_zero_iff.1 (by rw [hI.len]; rfl)
   exact ⟨v, c, rfl, hg.step c, hI.grew hg, .p _ _ hp⟩
def strsP (l : List (List UInt8)) : List PVal := l.map .str
def decQ : List PVal → Option (List (List UInt8))
 | [] => some []
 | .str s :: r => match decQ r with | some l => some (s :: l) | none => none
 | _ => none
theorem decQ_map : ∀ l : List (List UInt8), decQ (strsP l) = some l
 | [] => rfl
 | s :: l => by
  show (match decQ (strsP l) with | some l => some (s :: l) | none => none) = _
  rw [decQ_map l]
theorem decQ_some : ∀ {vs : List PVal} {l : List (List UInt8)}, decQ vs = some l → vs = strsP l
 | [], l, h => by cases h; rfl
 | v :: r, l, h => by
  cases v with
  | str s =>
   cases hd : decQ r with
   | none => simp [decQ, hd] at h
   | some l' =>
    simp only [decQ, hd, Option.some.injEq] at h
    subst h
    rw [decQ_some hd]; rfl
  | _ => simp [decQ] at h
def sJoin : List PVal → Option PVal
 | [.lst vs, .str sep] => match decQ vs with
  | some l => if (Lib.join l sep).length ≤ 1000000 ∧ l.length ≤ 1000000 then some (.str (Lib.join l sep)) else none
  | none => none
 | _ => none
theorem join_ok : FnOk Tryz.prog base 56 (pureS sJoin) := by
 refine fn_of_callsI (by kernel_rfl) fun ps x hs c w vs hI hl hr => ?_
 unfold sJoin at hs
 split at hs
 case h_2 => cases hs
 rename_i es sep
 split at hs
 case h_2 => cases hs
 rename_i l hd
 split at hs
 case isFalse => cases hs
 rename_i hc
 obtain ⟨h1, h2⟩ := hc
 cases hs
 have := decQ_some hd
 subst this
 match vs, hl with
 | [v0, v1], _ =>
  have r0 := hr 0 _ v0 rfl rfl
  have r1 := hr 1 _ v1 rfl rfl
  cases r1
  cases r0 with
  | lst _ a len cap size blk off vals hll hcc hm ha hsz hp hrr hk =>
   rename_i hsep
   have hla : len = l.length := by rw [hll]; simp [strsP]
   subst hla
   by_cases hl0 : l = []
   ·subst hl0
    refine (Tryz.strings_Join_none a cap ⟨sep.toArray⟩ w).mono ?_
    rintro e w' ⟨rfl, rfl⟩
    exact ⟨_, rfl, .str [] (by simp [maxLen]), Go.RowKit.Below.refl _ _⟩
   ·have hne : strsP l ≠ [] := by simpa [strsP] using hl0
    have ha' := ha hne
    subst ha'
    have hone : ∀ j s, l[j]? = some s → size = 1 ∧ c.prot blk (off + j) = some (.string ⟨s.toArray⟩) := by
     intro j s hj
     have hjl := (List.getElem?_eq_some_iff.1 hj).1
     have he : (strsP l)[j]? = some (.str s) := by simp [strsP, hj]
     have e1 : size = 1 := (hsz _ (List.mem_of_getElem? he)).symm.trans rfl
     subst e1
     have e2 := hp j 0 (by simpa [strsP] using hjl) (by omega)
     have e3 := hrr j _ 0 (.str s) he rfl
     refine ⟨rfl, ?_⟩
     cases hv : vals j 0 with
     | string b =>
      rw [hv] at e3
      cases e3
      rw [Nat.mul_one, Nat.add_zero, hv] at e2
      exact e2
     | _ => rw [hv] at e3; cases e3
    have hbk : blk < w.heap.size := by
     cases l with
     | nil => exact absurd rfl hl0
     | cons s r => exact hI.prot_lt (hone 0 s rfl).2
    have em : (l.map (fun s => (⟨s.toArray⟩ : ByteArray))).map (·.data.toList) = l := by
     rw [List.map_map]; exact List.map_id' l
    have el : (l.map (fun s => (⟨s.toArray⟩ : ByteArray))).length = l.length := List.length_map ..
    have := Tryz.strings_Join blk off cap (l.map (fun s => (⟨s.toArray⟩ : ByteArray))) ⟨sep.toArray⟩ w (fun j x hx => by
     rw [List.getElem?_map] at hx
     cases hj : l[j]? with
     | none => rw [hj] at hx; cases hx
     | some s =>
      rw [hj] at hx
      cases hx
      exact hI.prot _ _ _ (hone j s hj).2) hbk (by rw [el]; omega) (by rw [el]; exact hcc) (by rw [em]; show (Lib.join l sep).length ≤ _; omega)
    rw [em, el] at this
    refine this.mono ?_
    rintro e w' ⟨rfl, hb⟩
    exact ⟨_, rfl, .str _ (by unfold maxLen; show (Lib.join l sep).length ≤ _; omega), hb⟩
def sRall : List PVal → Option PVal
 | [.str s, .str old, .str new] => if old = [34] ∧ new = [34, 34] ∧ s.length ≤ 1000000 then some (.str (dbl s)) else none
 | _ => none
theorem count_le : ∀ l : List UInt8, Lib.count l [34] ≤ l.length
 | [] => by
  have : Lib.count [] [34] = 0 := Lib.count_miss (by simp [Lib.index])
  rw [this]; exact Nat.zero_le _
 | b :: l => by
  have := count_le l
  by_cases hb : b = 34
  ·subst hb; rw [ct_hit, List.length_cons]; omega
  ·rw [ct_miss hb, List.length_cons]; omega
theorem dbl_length : ∀ l : List UInt8, (dbl l).length ≤ 2 * l.length
 | [] => by simp [dbl]
 | b :: l => by
  have := dbl_length l
  by_cases hb : b = 34
  ·subst hb; simp [dbl]; omega
  ·simp [dbl, hb]; omega
theorem rall_ok {m : Int} (hm : base 5 0 = some (.int .i64 m)) : FnOk Tryz.prog base 74 (pureS sRall) := by
 refine fn_of_callsI (by kernel_rfl) fun ps x hs c w vs hI hl hr => ?_
 unfold sRall at hs
 split at hs
 case h_2 => cases hs
 rename_i s old new
 split at hs
 case isFalse => cases hs
 rename_i hc
 obtain ⟨rfl, rfl, h3⟩ := hc
 cases hs
 match vs, hl with
 | [v0, v1, v2], _ =>
  have r0 := hr 0 _ v0 rfl rfl
  have r1 := hr 1 _ v1 rfl rfl
  have r2 := hr 2 _ v2 rfl rfl
  cases r0
  cases r1
  cases r2
  have hcl := count_le s
  have hdl := dbl_length s
  have hcb : Lib.countB ⟨s.toArray⟩ ⟨[(34 : UInt8)].toArray⟩ = Lib.count s [34] := by simp [Lib.countB]
  have := Tryz.strings_ReplaceAll ⟨s.toArray⟩ ⟨[(34 : UInt8)].toArray⟩ ⟨[(34 : UInt8), 34].toArray⟩ m w (by show s.toArray.size < _; simp; omega) (hI.prot _ _ _ (hI.base _ _ _ hm)) (by decide) (by
   rw [hcb]
   show s.toArray.size + Lib.count s [34] * 2 ≤ _
   simp; omega)
  refine this.mono ?_
  rintro e w' ⟨rfl, hb⟩
  refine ⟨_, rfl, ?_, hb⟩
  show PRep _ _ (.string ⟨(Lib.replaceAll s [34] [34, 34]).toArray⟩)
  rw [dbl_all]
  exact .str _ (by unfold maxLen; omega)
end Go.Proofs.YtcbagnlidecmkaaGreatDoor

/-
 sexp.word and Show: their contracts.
-/
namespace Go.Proofs.YtcbagnlidecmkaaGreatDoor
open Go Go.Abs Go.Lex Go.Sexp
variable {base : Prot}
set_option maxRecDepth 20000
attribute [local simp] pureS touchV freezeL fuel shiftV
theorem FnOk.over {P : Program} {b b' : Prot} {f : FuncId} {s : List PVal → Option (AVal × Heap)} (hle : Prot.le b b') (h : FnOk P b f s) : FnOk P b' f s := by
 refine ⟨h.1, fun args r E hs c w vs hI hr => ?_⟩
 have hI' : Inv b c [] w := ⟨fun k o v hb => hI.base k o v (hle k o v hb), hI.len, hI.prot, hI.ent, hI.inj⟩
 refine (h.2 args r E hs c w vs hI' hr).mono ?_
 rintro e w' ⟨v, c', h1, h2, h3, h4⟩
 exact ⟨v, c', h1, h2, ⟨fun k o v hb => h2.prot k o v (hI.base k o v hb), h3.len, h3.prot, h3.ent, h3.inj⟩, h4⟩
def base2 (m : Int) : Prot := fun b o => if b = 5 ∧ o = 0 then some (.int .i64 m) else base1 b o
theorem base2_le (m : Int) : Prot.le base1 (base2 m) := by
 intro b o v h
 unfold base2
 rw [if_neg ?_]
 ·exact h
 ·rintro ⟨rfl, rfl⟩
  simp [base1] at h
theorem base2_m (m : Int) : base2 m 5 0 = some (.int .i64 m) := by simp [base2]
variable {m : Int}
def sWrd : List PVal → Option PVal
 | [.agg [.int .i64 k, .str t, .int .i64 _]] => if t.length ≤ 100000 then some (.str (wrW k t)) else none
 | _ => none
def Tww : Tab := ((Tab.none.with 72 (pureS sRes)).with 73 (pureS sQuote)).with 74 (pureS sRall)
theorem Tww_ok : TabOk Tryz.prog (base2 m) Tww := Tab.with_ok (Tab.with_ok (Tab.with_ok Tab.none_ok (FnOk.over (base2_le m) res_ok)) (FnOk.over (base2_le m) quote_ok)) (rall_ok (base2_m m))
theorem Tww_mu (f : FuncId) (a : List AVal) (H : Heap) : Tww.mu f a H = none := (rfl)
theorem Tww_1 : Tww.fn 72 = pureS sRes := (rfl)
theorem Tww_2 : Tww.fn 73 = pureS sQuote := (rfl)
theorem Tww_3 : Tww.fn 74 = pureS sRall := (rfl)
attribute [local simp] Tww_mu Tww_1 Tww_2 Tww_3
theorem word_ok : FnOk Tryz.prog (base2 m) 55 (pureS sWrd) := by
 refine pure_of_vc hmix Tww_ok globNone low55 fun args x hs hf => ?_
 unfold sWrd at hs
 split at hs
 case h_2 => cases hs
 rename_i k t a
 split at hs
 case isFalse => cases hs
 rename_i hw
 cases hs
 refine ⟨by simp [lf55], ?_⟩
 have hd := dbl_len t
 have hres : sRes [.str t] = some (.bool (isRes t)) := rfl
 have hra : sRall [.str t, .str [34], .str [34, 34]] = some (.str (dbl t)) := by
  simp only [sRall]
  rw [if_pos ⟨trivial, trivial, by omega⟩]
 by_cases h3 : k = 3
 ·subst h3
  by_cases hr : isRes t = true
  ·simp [lf55, wrW, hres, hr]
  ·have hq : sQuote [.str t] = some (match quoteS t with | some q => .tup [.str q, .int .i64 0] | none => .tup [.str [], .int .i64 2]) := by
    simp only [sQuote]
    rw [if_pos (by omega)]
    cases quoteS t <;> rfl
   cases hqs : quoteS t with
   | none =>
    rw [hqs] at hq
    simp [lf55, wrW, hres, hr, hq, hqs]
   | some q =>
    rw [hqs] at hq
    simp [lf55, wrW, hres, hr, hq, hqs]
 ·by_cases h4 : k = 4
  ·subst h4
   have hb : 1 + t.length ≤ maxLen := by unfold maxLen; omega
   simp [lf55, wrW, binS, Nat.add_comm t.length 1, hb]
  ·by_cases h7 : k = 7
   ·subst h7
    have hb : 1 + (dbl t).length ≤ maxLen := by unfold maxLen; omega
    have hb2 : 1 + (dbl t).length + 1 ≤ maxLen := by unfold maxLen; omega
    simp [lf55, wrW, hra, binS, Nat.add_comm (dbl t).length 1, hb, hb2]
   ·have b3 : (k == 3) = false := by simpa using h3
    have b4 : (k == 4) = false := by simpa using h4
    have b7 : (k == 7) = false := by simpa using h7
    simp [lf55, wrW, h3, h4, h7, b3, b4, b7]
def strE (ver : Nat) (fz : Bool) (l : List (List UInt8)) : Ent := ⟨1, ver, fz, l.map (fun s => .p (.str s)), 9⟩
def OutS (x : AVal) (H : Heap) (l : List (List UInt8)) : Prop := (x = .tight [] ∧ l = []) ∨ ∃ j ver, x = .own j 0 l.length ver ∧ H[j]? = some (strE ver false l)
theorem OutS.keep {x : AVal} {H H' : Heap} {l : List (List UInt8)} (h : OutS x H l) (hH : ∀ j, j < H.length → H'[j]? = H[j]?) : OutS x H' l := by
 rcases h with h | ⟨j, ver, h1, h2⟩
 ·exact .inl h
 ·exact .inr ⟨j, ver, h1, by rw [hH _ (List.getElem?_eq_some_iff.1 h2).1]; exact h2⟩
theorem OutS.app {x : AVal} {H : Heap} {l : List (List UInt8)} (h : OutS x H l) (hl : l.length < 1000000) (s : List UInt8) : ∃ x' H', appV 1 16 9 x [.p (.str s)] H = some (x', H') ∧ OutS x' H' (l ++ [s]) := by
 rcases h with ⟨rfl, rfl⟩ | ⟨j, ver, rfl, h2⟩
 ·exact ⟨.own H.length 0 1 0, H ++ [strE 0 false [s]], by simp [appV, strE, maxLen], .inr ⟨H.length, 0, rfl, by simp⟩⟩
 ·have hj := (List.getElem?_eq_some_iff.1 h2).1
  have m1 : (l.length + 1) * 16 ≤ 140737488355328 := by omega
  have m2 : l.length + 1 ≤ maxLen := by unfold maxLen; omega
  refine ⟨.own j 0 (l.length + 1) (ver + 1), H.set j (strE (ver + 1) false (l ++ [s])), ?_, .inr ⟨j, ver + 1, by simp, by simp [hj]⟩⟩
  unfold strE at h2
  simp [appV, strE, h2, m1, m2]
theorem mapO_strs (H : Heap) (n : Nat) : ∀ l : List (List UInt8), mapO (resolveV H (n + 1)) (l.map (fun s => AVal.p (.str s))) = some (strsP l)
 | [] => rfl
 | s :: l => by
  have := mapO_strs H n l
  simp only [List.map_cons, mapO, this, resolveV]; rfl
theorem OutS.res {x : AVal} {H : Heap} {l : List (List UInt8)} (h : OutS x H l) (n : Nat) : resolveV H (n + 2) x = some (.lst (strsP l)) := by
 rcases h with ⟨rfl, rfl⟩ | ⟨j, ver, rfl, h2⟩
 ·rfl
 ·have etk : (l.map (fun s => AVal.p (.str s))).take l.length = l.map (fun s => AVal.p (.str s)) := List.take_of_length_le (by simp)
  have em := mapO_strs H n l
  unfold strE at h2
  simp only [resolveV, h2, List.length_map, Nat.zero_add, Nat.le_refl, and_self, if_true, List.drop_zero, etk, em]
def showT (t : Tr Wd) : List UInt8 := showK (t.map Lex.key)
theorem join_tail : ∀ (l : List (Tr Wd)) (x : List UInt8), Lib.join (x :: l.map showT) [32] = x ++ showTail (mapL Lex.key l)
 | [], x => by simp [Lib.join, mapL, showTail]
 | t :: l, x => by
  have := join_tail l (showT t)
  rw [List.map_cons]
  unfold Lib.join at this ⊢
  rw [List.intercalate_cons_cons, this]
  simp [mapL, showTail, showT]
theorem join_show : ∀ l : List (Tr Wd), Lib.join (l.map showT) [32] = showKL (mapL Lex.key l)
 | [] => by simp [Lib.join, mapL, showKL]
 | t :: l => by
  rw [List.map_cons, join_tail l]
  simp only [mapL, showKL, showT]
theorem tail_mem {l : List (Tr Wd)} {t : Tr Wd} (h : t ∈ l) : (showT t).length ≤ (showTail (mapL Lex.key l)).length := by
 induction l with
 | nil => cases h
 | cons a l ih =>
  simp only [mapL, showTail, List.length_cons, List.length_append]
  rcases List.mem_cons.1 h with rfl | h
  ·simp only [showT]; omega
  ·have := ih h; omega
theorem kids_mem {l : List (Tr Wd)} {t : Tr Wd} (h : t ∈ l) : (showT t).length ≤ (showKL (mapL Lex.key l)).length := by
 cases l with
 | nil => cases h
 | cons a l =>
  simp only [mapL, showKL, List.length_append]
  rcases List.mem_cons.1 h with rfl | h
  ·simp only [showT]; omega
  ·have := tail_mem h; omega
theorem allL_mem {P : Lex.Key → Prop} {l : List (Tr Wd)} (h : allL P (mapL Lex.key l)) {t : Tr Wd} (ht : t ∈ l) : (t.map Lex.key).all P := by
 induction l with
 | nil => cases ht
 | cons a l ih =>
  simp only [mapL, allL] at h
  rcases List.mem_cons.1 ht with rfl | ht
  ·exact h.1
  ·exact ih h.2 ht
def shortK (k : Lex.Key) : Prop := k.2.length ≤ 100000
open Classical in
noncomputable def sShowM (m : Nat) : List PVal → Option PVal
 | [v] => match decT v with
  | some t => if t.size < m ∧ t.size ≤ 1000000 ∧ (t.map Lex.key).all shortK ∧ (showT t).length ≤ 100000 then some (.str (showT t)) else none
  | none => none
 | _ => none
open Classical in
noncomputable def sShow : List PVal → Option PVal
 | [v] => match decT v with
  | some t => if t.size ≤ 1000000 ∧ (t.map Lex.key).all shortK ∧ (showT t).length ≤ 100000 then some (.str (showT t)) else none
  | none => none
 | _ => none
noncomputable def Tsh (n : Nat) : Tab := ((Tab.none.with 29 (pureS (sShowM n))).with 55 (pureS sWrd)).with 56 (pureS sJoin)
theorem Tsh_mu (n : Nat) (f : FuncId) (a : List AVal) (H : Heap) : (Tsh n).mu f a H = none := (rfl)
theorem Tsh_1 (n : Nat) : (Tsh n).fn 29 = pureS (sShowM n) := (rfl)
theorem Tsh_2 (n : Nat) : (Tsh n).fn 55 = pureS sWrd := (rfl)
theorem Tsh_3 (n : Nat) : (Tsh n).fn 56 = pureS sJoin := (rfl)
attribute [local simp] Tsh_mu Tsh_1 Tsh_2 Tsh_3
theorem show_step (n : Nat) (ih : FnOk Tryz.prog (base2 m) 29 (pureS (sShowM n))) : FnOk Tryz.prog (base2 m) 29 (pureS (sShowM (n + 1))) := by
 have hT : TabOk Tryz.prog (base2 m) (Tsh n) := Tab.with_ok (Tab.with_ok (Tab.with_ok Tab.none_ok ih) word_ok) join_ok
 refine pure_of_vc hmix hT globNone low29 fun args x hs hf => ?_
 unfold sShowM at hs
 split at hs
 case h_2 => cases hs
 rename_i v
 split at hs
 case h_2 => cases hs
 rename_i t hd
 split at hs
 case isFalse => cases hs
 rename_i hw
 obtain ⟨hw1, hw2, hw3, hw4⟩ := hw
 have := decT_some hd
 subst this
 cases hs
 refine ⟨by simp [lf29], ?_⟩
 cases t with
 | leaf w =>
  have hst : sWrd [.agg [.int .i64 w.kind, .str w.text, .int .i64 w.at_]] = some (.str (wrW w.kind w.text)) := by
   simp only [sWrd]
   exact if_pos hw3
  have hsh : showT (.leaf w) = wrW w.kind w.text := rfl
  simp [lf29, encT, hst, hsh]
 | list kids =>
  simp only [Tr.size] at hw1 hw2
  have hkl := len_size kids
  have hsh : showT (.list kids) = 40 :: (showKL (mapL Lex.key kids) ++ [41]) := rfl
  have h3 : allL shortK (mapL Lex.key kids) := hw3
  rw [hsh] at hw4 ⊢
  simp only [List.length_cons, List.length_append, List.length_nil] at hw4
  have hjn : sJoin [.lst (strsP (kids.map showT)), .str [32]] = some (.str (showKL (mapL Lex.key kids))) := by
   simp only [sJoin, decQ_map]
   rw [join_show, if_pos ⟨by omega, by rw [List.length_map]; omega⟩]
  simp [lf29, encT]
  simp only [lf29_B0, vc_block]
  refine loop_ind (fun fr H => ∃ i : Nat, i ≤ kids.length ∧ fr 13 = .p (.lst (encL kids)) ∧ fr 14 = .p (.int .i64 (kids.length : Int)) ∧ fr 15 = .p (.int .i64 (i : Int)) ∧ OutS (fr 3) H ((kids.map showT).take i))
   (fun fr _ => kids.length - ivar (fr 15)) ⟨0, by simp, by simp, by simp [encL_len], by simp, by simp; exact .inl ⟨rfl, rfl⟩⟩ ?_
  rintro fr H ⟨i, hi, h13, h14, h15, hout⟩
  by_cases hlt : i < kids.length
  ·obtain ⟨t, hti⟩ : ∃ t, kids[i]? = some t := ⟨_, List.getElem?_eq_getElem hlt⟩
   have hg := encL_get hti
   have hmem := List.mem_of_getElem? hti
   have ht1 := size_mem hmem
   have ht2 := kids_mem hmem
   have ht3 := allL_mem h3 hmem
   have hst : sShowM n [encT t] = some (.str (showT t)) := by
    simp only [sShowM, decT_enc]
    rw [if_pos ⟨by omega, by omega, ht3, by omega⟩]
   have hnx := take_next hti
   obtain ⟨b, k, s, a, vs, hen⟩ := encT_shape t
   obtain ⟨x', H', e1, e2⟩ := (hout.keep (H' := H ++ [rowE 0 false [treeV t], strE 0 false [showT t]]) fun j hj => by rw [List.getElem?_append_left hj]).app (by rw [List.length_take, List.length_map]; omega) (showT t)
   unfold rowE treeV strE at e1
   simp only [List.map_cons, List.map_nil] at e1
   have hnx' : (kids.map showT).take i ++ [showT t] = (kids.map showT).take (i + 1) := by rw [← List.map_take, ← List.map_take, hnx, List.map_append]; rfl
   rw [hnx'] at e2
   rw [hen] at e1
   rw [hen] at hg hst
   simp [h13, h14, h15, hlt, hg, hst, e1, get_end, set_end, fillS, List.replicate, wrap_succ (i := i) (by omega), -appV, -List.map_take]
   exact ⟨⟨i + 1, by omega, rfl, e2⟩, by simp only [ivar]; omega⟩
  ·have hil : i = kids.length := by omega
   subst hil
   rw [List.take_of_length_le (by rw [List.length_map]; exact Nat.le_refl _)] at hout
   have hres := hout.res 6
   have hb1 : 1 + (showKL (mapL Lex.key kids)).length ≤ maxLen := by unfold maxLen; omega
   have hb2 : (showKL (mapL Lex.key kids)).length + 1 + 1 ≤ maxLen := by unfold maxLen; omega
   rcases hout with ⟨h2, hk⟩ | ⟨j, ver, h2, hk⟩
   ·rw [hk] at hjn
    simp only [strsP, List.map_nil] at hjn
    simp [h13, h14, h15, h2, hjn, binS, hb1, hb2]
   ·rw [h2] at hres
    simp only [List.length_map] at hres
    have hrs : ∀ (H : Heap) (x : PVal), resolveV H 8 (.p x) = some x := fun _ _ => rfl
    simp [h13, h14, h15, h2, -resolveV, hres, hrs, hjn, binS, hb1, hb2]
theorem show_ok : FnOk Tryz.prog (base2 m) 29 (pureS sShow) := by
 refine FnOk.union (s := sShowM) (FnOk.steps ?_ show_step) fun args x hs => ?_
 ·refine pure_of_vc hmix Tab.none_ok globNone low29 fun args x hs hf => ?_
  exfalso
  unfold sShowM at hs
  split at hs
  case h_2 => cases hs
  split at hs
  case h_2 => cases hs
  rw [if_neg (by omega)] at hs
  cases hs
 ·unfold sShow at hs
  split at hs
  case h_2 => cases hs
  rename_i v
  split at hs
  case h_2 => cases hs
  rename_i t hd
  split at hs
  case isFalse => cases hs
  rename_i hw
  exact ⟨t.size + 1, by simp only [sShowM, hd]; rw [if_pos ⟨by omega, hw⟩]; exact hs⟩
end Go.Proofs.YtcbagnlidecmkaaGreatDoor
