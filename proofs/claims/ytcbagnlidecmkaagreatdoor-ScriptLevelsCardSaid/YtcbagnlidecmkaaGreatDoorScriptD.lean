/-
  What script.params computes. No conditions beyond the lemmas' own hypotheses.
-/
import Derived.Test.YtcbagnlidecmkaaGreatDoorScriptC
set_option linter.unusedSimpArgs false
set_option linter.unnecessarySimpa false
set_option linter.unusedVariables false
set_option linter.constructorNameAsVariable false

/-
 script: what Text rests on: the plain law, and a function's parameters as they are written.
-/
namespace Go.Proofs.YtcbagnlidecmkaaGreatDoor
open Go Go.Abs Go.Lex Go.Sexp
set_option maxRecDepth 20000
attribute [local simp] pureS touchV freezeL fuel shiftV
variable {m : Int}
theorem dbl_ge : ∀ l : List UInt8, l.length ≤ (dbl l).length
 | [] => Nat.le_refl _
 | c :: r => by
  have := dbl_ge r
  by_cases h : c = 34
  ·simp only [dbl, h, if_true, List.length_cons]; omega
  ·simp only [dbl, h, if_false, List.length_cons]; omega
theorem rd_txt {w : Lex.Key} (h : RdK w) : w.2.length ≤ (wrW w.1 w.2).length := by
 obtain ⟨h1, h2, c, r, hc, -⟩ := h
 unfold wrW at hc ⊢
 split
 ·rename_i h3
  rw [if_pos h3] at hc
  split
  ·exact Nat.le_refl _
  ·rename_i h4
   rw [if_neg h4] at hc
   unfold quoteS at hc ⊢
   split
   ·simp
   ·rename_i h5
    rw [if_neg h5] at hc
    split
    ·simp; omega
    ·rename_i h6
     rw [if_neg h6] at hc
     cases hc
 ·split
  ·simp
  ·split
   ·have := dbl_ge w.2
    simp; omega
   ·exact Nat.le_refl _
mutual
theorem size_le_show : ∀ t : Tr Lex.Key, t.all RdK → t.size ≤ (showK t).length
 | .leaf w, h => by
  obtain ⟨_, _, c, r, hc, _⟩ := h
  show 1 ≤ (wrW w.1 w.2).length
  rw [hc]; simp
 | .list l, h => by
  have := size_le_showL l h
  show 1 + sizeL l ≤ (40 :: (showKL l ++ [41])).length
  simp only [List.length_cons, List.length_append, List.length_nil]; omega
theorem size_le_showL : ∀ l : List (Tr Lex.Key), allL RdK l → sizeL l ≤ (showKL l).length
 | [], _ => Nat.zero_le _
 | t :: r, h => by
  have h1 := size_le_show t h.1
  have h2 := size_le_showT r h.2
  simp only [sizeL, showKL, List.length_append]; omega
theorem size_le_showT : ∀ l : List (Tr Lex.Key), allL RdK l → sizeL l ≤ (showTail l).length
 | [], _ => Nat.zero_le _
 | t :: r, h => by
  have h1 := size_le_show t h.1
  have h2 := size_le_showT r h.2
  simp only [sizeL, showTail, List.length_cons, List.length_append]; omega
end
mutual
theorem short_show (n : Nat) : ∀ t : Tr Lex.Key, t.all RdK → (showK t).length ≤ n → t.all (fun k => k.2.length ≤ n)
 | .leaf w, h, hl => Nat.le_trans (rd_txt h) hl
 | .list l, h, hl => by
  refine short_showL n l h ?_
  have : (showK (Tr.list l)).length = (showKL l).length + 2 := by
   show (40 :: (showKL l ++ [41])).length = _
   simp
  omega
theorem short_showL (n : Nat) : ∀ l : List (Tr Lex.Key), allL RdK l → (showKL l).length ≤ n → allL (fun k => k.2.length ≤ n) l
 | [], _, _ => trivial
 | t :: r, h, hl => by
  simp only [showKL, List.length_append] at hl
  exact ⟨short_show n t h.1 (by omega), short_showT n r h.2 (by omega)⟩
theorem short_showT (n : Nat) : ∀ l : List (Tr Lex.Key), allL RdK l → (showTail l).length ≤ n → allL (fun k => k.2.length ≤ n) l
 | [], _, _ => trivial
 | t :: r, h, hl => by
  simp only [showTail, List.length_cons, List.length_append] at hl
  exact ⟨short_show n t h.1 (by omega), short_showT n r h.2 (by omega)⟩
end
mutual
theorem size_mapK (f : Wd → Lex.Key) : ∀ t : Tr Wd, (t.map f).size = t.size
 | .leaf _ => rfl
 | .list l => by simp only [Tr.map, Tr.size, sizeL_mapK f l]
theorem sizeL_mapK (f : Wd → Lex.Key) : ∀ l : List (Tr Wd), sizeL (mapL f l) = sizeL l
 | [] => rfl
 | t :: l => by simp only [mapL, sizeL, size_mapK f t, sizeL_mapK f l]
end
theorem show_good {t : Tr Wd} (h : (t.map key).all RdK) (hl : (showK (t.map key)).length ≤ 50000) : sShow [encT t] = some (.str (showK (t.map key))) := by
 have h1 := size_le_show _ h
 rw [size_mapK] at h1
 simp only [sShow, decT_enc]
 exact if_pos ⟨by omega, all_mono (fun k hk => Nat.le_trans hk (by decide)) _ (short_show 50000 _ h hl), Nat.le_trans hl (by decide)⟩
theorem sym_good {s : List UInt8} (h : RdK (3, s)) (hl : (wrW 3 s).length ≤ 50000) : sSm [.str s] = some (.str (wrW 3 s)) := by
 have := rd_txt h
 have h2 : s.length ≤ (wrW 3 s).length := this
 simp only [sSm]
 rw [if_pos ⟨by omega, by omega⟩]
theorem joinK_tail : ∀ (l : List (Tr Lex.Key)) (x : List UInt8), Lib.join (x :: l.map showK) [32] = x ++ showTail l
 | [], x => by simp [Lib.join, showTail]
 | t :: l, x => by
  have := joinK_tail l (showK t)
  rw [List.map_cons]
  unfold Lib.join at this ⊢
  rw [List.intercalate_cons_cons, this]
  simp [showTail]
theorem listT_show (l : List (Tr Lex.Key)) : listT (l.map showK) = showK (.list l) := by
 unfold listT
 cases l with
 | nil => rfl
 | cons t l => rw [List.map_cons, joinK_tail]; rfl
theorem list_good {l : List (Tr Lex.Key)} (hl : (showK (.list l)).length ≤ 50000) (hn : l.length ≤ 50000) : sLs [.lst (strsP (l.map showK))] = some (.str (showK (.list l))) := by
 have e := listT_show l
 have h1 : (Lib.join (l.map showK) [32]).length + 2 = (showK (.list l)).length := by rw [← e, listT]; simp
 simp only [sLs, decQ_map]
 rw [if_pos ⟨by omega, by rw [List.length_map]; omega⟩, e]
def decC : PVal → Option (Cmd Wd)
 | .agg [.int .i64 k, .str nm, .lst ps, .str rs, a, b, c, d, e, .lst ts, .int .i64 n] => match decPr ps, decT (.agg [a, b, c, d, e]), decTL ts with
  | some ps, some t, some ts => if 0 ≤ k ∧ 0 ≤ n then some ⟨k.toNat, nm, ps, rs, t, ts, n.toNat⟩ else none
  | _, _, _ => none
 | _ => none
theorem encC_at {c : Cmd Wd} {tb : Bool} {tk : Int} {ts : List UInt8} {ta : Int} {tvs : List PVal} (h : encT c.term = .agg [.bool tb, .int .i64 tk, .str ts, .int .i64 ta, .lst tvs]) :
  encC c = .agg [.int .i64 c.kind, .str c.name, .lst (c.params.map parP), .str c.result, .bool tb, .int .i64 tk, .str ts, .int .i64 ta, .lst tvs, .lst (encL c.terms), .int .i64 c.n] := by simp only [encC, term_cells h]; rfl
theorem decC_enc (c : Cmd Wd) : decC (encC c) = some c := by
 obtain ⟨tb, tk, ts, ta, tvs, ten⟩ := encT_shape c.term
 rw [encC_at ten]
 have ht := decT_enc c.term
 rw [ten] at ht
 simp only [decC, decPr_map, ht, decL_enc]
 rw [if_pos ⟨Int.natCast_nonneg _, Int.natCast_nonneg _⟩]
 simp
theorem decC_some {v : PVal} {c : Cmd Wd} (h : decC v = some c) : v = encC c := by
 unfold decC at h
 split at h
 ·split at h
  ·rename_i h1 h2 h3
   split at h
   ·rename_i hc
    cases h
    rw [decPr_some h1, decL_some h3]
    have ht := (decT_some h2)
    obtain ⟨tb, tk, ts, ta, tvs, ten⟩ := encT_shape ‹Tr Wd›
    rw [ten] at ht
    cases ht
    rw [encC_at (c := ⟨_, _, _, _, _, _, _⟩) ten]
    simp [Int.toNat_of_nonneg hc.1, Int.toNat_of_nonneg hc.2]
   ·cases h
  ·cases h
 ·cases h
def parTs (kd : Nat) (ps : List Par) : List (Tr Lex.Key) := if kd = 6 then ps.map (fun q => .list [sK q.1, sK q.2]) else ps.map (fun q => sK q.2)
open Classical in
noncomputable def sPrs : List PVal → Option PVal
 | [v] => match decC v with
  | some c => if (Tr.list (parTs c.kind c.params)).all RdK ∧ (showK (.list (parTs c.kind c.params))).length ≤ 50000 ∧ c.params.length ≤ 50000 then some (.str (showK (.list (parTs c.kind c.params)))) else none
  | none => none
 | _ => none
def Tpr : Tab := (Tab.none.with 27 (pureS sSm)).with 32 (pureS sLs)
theorem Tpr_ok : TabOk Tryz.prog (base2 m) Tpr := Tab.with_ok (Tab.with_ok Tab.none_ok sym_ok) list_ok
theorem Tpr_mu (f : FuncId) (a : List AVal) (H : Heap) : Tpr.mu f a H = none := (rfl)
theorem Tpr_1 : Tpr.fn 27 = pureS sSm := (rfl)
theorem Tpr_2 : Tpr.fn 32 = pureS sLs := (rfl)
attribute [local simp] Tpr_mu Tpr_1 Tpr_2
end Go.Proofs.YtcbagnlidecmkaaGreatDoor

/-
 script: a function's parameters as they are written.
-/
namespace Go.Proofs.YtcbagnlidecmkaaGreatDoor
open Go Go.Abs Go.Lex Go.Sexp
set_option maxRecDepth 20000
attribute [local simp] pureS touchV freezeL fuel shiftV
attribute [local simp] Tpr_mu Tpr_1 Tpr_2
variable {m : Int}
theorem OutS.app2 {x : AVal} {H : Heap} {l : List (List UInt8)} (h : OutS x H l) (hl : l.length < 1000000) (s : List UInt8) {k : Nat} {e : Ent} (hk : H[k]? = some e) (hs : e.size ≠ 1) : ∃ x' H', appV 1 16 9 x [.p (.str s)] H = some (x', H') ∧ OutS x' H' (l ++ [s]) ∧ H'[k]? = some e := by
 have hkl := (List.getElem?_eq_some_iff.1 hk).1
 rcases h with ⟨rfl, rfl⟩ | ⟨j, ver, rfl, h2⟩
 ·exact ⟨.own H.length 0 1 0, H ++ [strE 0 false [s]], by simp [appV, strE, maxLen], .inr ⟨H.length, 0, rfl, by simp⟩, by rw [List.getElem?_append_left hkl]; exact hk⟩
 ·have hj := (List.getElem?_eq_some_iff.1 h2).1
  have hjk : j ≠ k := by
   rintro rfl
   rw [hk] at h2
   cases h2
   exact hs rfl
  have m1 : (l.length + 1) * 16 ≤ 140737488355328 := by omega
  have m2 : l.length + 1 ≤ maxLen := by unfold maxLen; omega
  refine ⟨.own j 0 (l.length + 1) (ver + 1), H.set j (strE (ver + 1) false (l ++ [s])), ?_, .inr ⟨j, ver + 1, by simp, by simp [hj]⟩, by rw [List.getElem?_set_ne hjk]; exact hk⟩
  unfold strE at h2
  simp [appV, strE, h2, m1, m2]
theorem parTs_get {kd : Nat} {ps : List Par} {i : Nat} {q : Par} (h : ps[i]? = some q) : (parTs kd ps)[i]? = some (if kd = 6 then .list [sK q.1, sK q.2] else sK q.2) := by
 unfold parTs
 split <;> rw [List.getElem?_map, h] <;> rfl
theorem parTs_len (kd : Nat) (ps : List Par) : (parTs kd ps).length = ps.length := by unfold parTs; split <;> simp
theorem show_mem {l : List (Tr Lex.Key)} {x : Tr Lex.Key} (h : x ∈ l) : (showK x).length ≤ (showK (.list l)).length := by
 have e : (showK (Tr.list l)).length = (showKL l).length + 2 := by
  show (40 :: (showKL l ++ [41])).length = _
  simp
 cases l with
 | nil => cases h
 | cons a l =>
  rw [e]
  simp only [showKL, List.length_append]
  rcases List.mem_cons.1 h with rfl | h
  ·omega
  ·have := tailK_mem h; omega
theorem prs_ok : FnOk Tryz.prog (base2 m) 30 (pureS sPrs) := by
 refine pure_of_vc hmix Tpr_ok globNone low30 fun args x hs hf => ?_
 unfold sPrs at hs
 split at hs
 case h_2 => cases hs
 split at hs
 case h_2 => cases hs
 rename_i c hd
 split at hs
 case isFalse => cases hs
 rename_i hc
 obtain ⟨hrd, hlen, hpn⟩ := hc
 have := decC_some hd
 subst this
 cases hs
 refine ⟨by simp [lf30], ?_⟩
 obtain ⟨tb, tk, ts, ta, tvs, ten⟩ := encT_shape c.term
 have hec := encC_at ten
 have hLs := list_good (l := parTs c.kind c.params) hlen (by rw [parTs_len]; omega)
 rw [hec]
 simp [lf30]
 simp only [lf30_B0, vc_block]
 refine loop_ind (fun fr H => ∃ i : Nat, i ≤ c.params.length ∧ fr 1 = .optr 0 0 0 0 ∧ fr 7 = .p (.lst (c.params.map parP)) ∧ fr 8 = .p (.int .i64 (c.params.length : Int)) ∧ fr 9 = .p (.int .i64 (i : Int)) ∧ ∃ R : Heap, H = ⟨11, 0, false, [.p (.agg [.int .i64 c.kind, .str c.name, .lst (c.params.map parP), .str c.result, .bool tb, .int .i64 tk, .str ts, .int .i64 ta, .lst tvs, .lst (encL c.terms), .int .i64 c.n])], 31⟩ :: R ∧ OutS (fr 3) H (((parTs c.kind c.params).map showK).take i))
  (fun fr _ => c.params.length - ivar (fr 9)) ⟨0, by simp, by simp, by simp, by simp, by simp, [], by simp, by simp; exact .inl ⟨rfl, rfl⟩⟩ ?_
 rintro fr H ⟨i, hi, f1, f7, f8, f9, R, rfl, g2⟩
 by_cases hlt : i < c.params.length
 ·obtain ⟨q, hq⟩ : ∃ q, c.params[i]? = some q := ⟨_, List.getElem?_eq_getElem hlt⟩
  obtain ⟨_, hq'⟩ := List.getElem?_eq_some_iff.1 hq
  have hp : parP q = .agg [.str q.1, .str q.2] := rfl
  have hpt := parTs_get (kd := c.kind) hq
  have hmem := List.mem_of_getElem? hpt
  have hsl := show_mem hmem
  have hxr := allK_mem.1 hrd _ hmem
  have hnx : ((parTs c.kind c.params).map showK).take (i + 1) = ((parTs c.kind c.params).map showK).take i ++ [showK (if c.kind = 6 then .list [sK q.1, sK q.2] else sK q.2)] := by
   rw [List.take_add_one, List.getElem?_map, hpt]; rfl
  have ge1 : ∀ a : Ent, (R ++ [a])[R.length]? = some a := fun a => by simp
  have se1 : ∀ a b : Ent, (R ++ [a]).set R.length b = R ++ [b] := fun a b => by
   rw [List.set_append_right _ _ (Nat.le_refl _), Nat.sub_self]; rfl
  have hle : (((parTs c.kind c.params).map showK).take i).length < 1000000 := by rw [List.length_take, List.length_map, parTs_len]; omega
  by_cases h6 : c.kind = 6
  ·rw [if_pos h6] at hsl hxr hnx
   have hlw : (showK (Tr.list [sK q.1, sK q.2])).length = (wrW 3 q.1).length + (wrW 3 q.2).length + 3 := by
    show (40 :: ((wrW 3 q.1 ++ (32 :: (wrW 3 q.2 ++ []))) ++ [41])).length = _
    simp; omega
   have s1 := sym_good hxr.1 (by omega)
   have s2 := sym_good hxr.2.1 (by omega)
   have s3 : sLs [.lst [.str (wrW 3 q.1), .str (wrW 3 q.2)]] = some (.str (showK (.list [sK q.1, sK q.2]))) := list_good (l := [sK q.1, sK q.2]) (by omega) (by simp)
   have fz : ∀ C a b : Ent, freeze1 (C :: (R ++ [a, b])) (R.length + 1 + 1) = C :: (R ++ [a, ⟨b.size, b.ver, true, b.elems, b.ty⟩]) := fun C a b => by
    unfold freeze1
    simp
   have k6 : ((c.kind : Int) == 6) = true := by simp; omega
   simp [f1, f7, f8, f9, hlt, hq', hp, k6, ge1, se1]
   rw [vc_regionW]
   refine ⟨[], ?_⟩
   obtain ⟨x', H', e1, e2, e3⟩ := (g2.keep (H' := ⟨11, 0, false, [.p (.agg [.int .i64 c.kind, .str c.name, .lst (c.params.map parP), .str c.result, .bool tb, .int .i64 tk, .str ts, .int .i64 ta, .lst tvs, .lst (encL c.terms), .int .i64 c.n])], 31⟩ :: (R ++ [⟨2, 0, false, [.p (.agg [.str q.1, .str q.2])], 49⟩, ⟨1, 0, true, [.p (.str (wrW 3 q.1)), .p (.str (wrW 3 q.2))], 9⟩, strE 0 false [showK (.list [sK q.1, sK q.2])]])) (fun j hj => by cases j with | zero => rfl | succ j => rw [List.getElem?_cons_succ, List.getElem?_cons_succ, List.getElem?_append_left (by simpa using hj)])).app2 hle (showK (.list [sK q.1, sK q.2])) (k := 0) rfl (show (11 : Nat) ≠ 1 by decide)
   unfold strE at e1
   simp only [List.map_cons, List.map_nil] at e1
   rw [← hnx] at e2
   obtain ⟨R', rfl⟩ : ∃ R', H' = ⟨11, 0, false, [.p (.agg [.int .i64 c.kind, .str c.name, .lst (c.params.map parP), .str c.result, .bool tb, .int .i64 tk, .str ts, .int .i64 ta, .lst tvs, .lst (encL c.terms), .int .i64 c.n])], 31⟩ :: R' := by
    cases H' with
    | nil => cases e3
    | cons a R' => cases e3; exact ⟨R', rfl⟩
   simp [f1, f7, f8, f9, ge1, s1, s2, s3, fz, e1, fillS, -appV, wrap_succ (i := i) (by omega)]
   exact ⟨⟨i + 1, by omega, by simp, e2⟩, by simp only [ivar]; omega⟩
  ·rw [if_neg h6] at hsl hxr hnx
   have k6 : ((c.kind : Int) == 6) = false := by simp; omega
   have s2 := sym_good hxr (Nat.le_trans hsl hlen)
   obtain ⟨x', H', e1, e2, e3⟩ := (g2.keep (H' := ⟨11, 0, false, [.p (.agg [.int .i64 c.kind, .str c.name, .lst (c.params.map parP), .str c.result, .bool tb, .int .i64 tk, .str ts, .int .i64 ta, .lst tvs, .lst (encL c.terms), .int .i64 c.n])], 31⟩ :: (R ++ [⟨2, 0, false, [.p (.agg [.str q.1, .str q.2])], 49⟩, strE 0 false [wrW 3 q.2]])) (fun j hj => by cases j with | zero => rfl | succ j => rw [List.getElem?_cons_succ, List.getElem?_cons_succ, List.getElem?_append_left (by simpa using hj)])).app2 hle (wrW 3 q.2) (k := 0) rfl (show (11 : Nat) ≠ 1 by decide)
   unfold strE at e1
   simp only [List.map_cons, List.map_nil] at e1
   have hnx2 : ((parTs c.kind c.params).map showK).take i ++ [wrW 3 q.2] = ((parTs c.kind c.params).map showK).take (i + 1) := hnx.symm
   rw [hnx2] at e2
   obtain ⟨R', rfl⟩ : ∃ R', H' = ⟨11, 0, false, [.p (.agg [.int .i64 c.kind, .str c.name, .lst (c.params.map parP), .str c.result, .bool tb, .int .i64 tk, .str ts, .int .i64 ta, .lst tvs, .lst (encL c.terms), .int .i64 c.n])], 31⟩ :: R' := by
    cases H' with
    | nil => cases e3
    | cons a R' => cases e3; exact ⟨R', rfl⟩
   simp [f1, f7, f8, f9, hlt, hq', hp, k6, ge1, se1, s2, e1, fillS, -appV, -List.map_take, wrap_succ (i := i) (by omega)]
   exact ⟨⟨i + 1, by omega, by simp, e2⟩, by simp only [ivar]; omega⟩
 ·have hil : i = c.params.length := by omega
  subst hil
  rw [List.take_of_length_le (by rw [List.length_map, parTs_len]; exact Nat.le_refl _)] at g2
  have hres := g2.res 6
  rcases g2 with ⟨h2, hk⟩ | ⟨j, ver, h2, hk⟩
  ·rw [hk] at hLs
   simp only [strsP, List.map_nil] at hLs
   simp [f7, f8, f9, h2, hLs]
  ·rw [h2] at hres
   simp only [List.length_map, parTs_len] at hres
   have hrs : ∀ (H : Heap) (x : PVal), resolveV H 8 (.p x) = some x := fun _ _ => rfl
   simp [f7, f8, f9, h2, -resolveV, hres, hrs, hLs, parTs_len]
end Go.Proofs.YtcbagnlidecmkaaGreatDoor
