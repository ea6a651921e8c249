/-
  SexpDeep answers true on all values. No conditions.
-/
import Derived.Test.YtdaiicaeklcceaaDoorSexpH
set_option linter.unusedSimpArgs false
set_option linter.unnecessarySimpa false
set_option linter.unusedVariables false
set_option linter.constructorNameAsVariable false

/-
  law12: lists within lists.
-/
namespace Go.Proofs.YtdaiicaeklcceaaDoor
open Go Go.Abs Go.Lex Go.Sexp
set_option maxRecDepth 20000
attribute [local simp] pureS touchV freezeL fuel shiftV
variable {m : Int}
mutual
theorem size_map (f : Wd → Lex.Key) : ∀ t : Tr Wd, (t.map f).size = t.size
  | .leaf _ => rfl
  | .list l => by simp only [Tr.map, Tr.size, sizeL_map f l]
theorem sizeL_map (f : Wd → Lex.Key) : ∀ l : List (Tr Wd), sizeL (mapL f l) = sizeL l
  | [] => rfl
  | t :: l => by simp only [mapL, sizeL, size_map f t, sizeL_map f l]
end
mutual
theorem deep_map (f : Wd → Lex.Key) : ∀ t : Tr Wd, (t.map f).deep = t.deep
  | .leaf _ => rfl
  | .list l => by simp only [Tr.map, Tr.deep, deepL_map f l]
theorem deepL_map (f : Wd → Lex.Key) : ∀ l : List (Tr Wd), deepL (mapL f l) = deepL l
  | [] => rfl
  | t :: l => by simp only [mapL, deepL, deep_map f t, deepL_map f l]
end
theorem deep_facts {n : Nat} (hn : n ≤ 400) (op : Bool) : ∃ ws : List Wd, wdsOf (deepText n op) = ws ∧ 0 < ws.length ∧ ws.length ≤ 1000 ∧
    ((op = true ∧ 0 < n ∧ nextO ws 0 = (none, (ws.length : Int), if 200 < n then 4 else 2)) ∨
     ((op = false ∨ n = 0) ∧ ∃ a : Int, (∃ w : Wd, w.text = [121] ∧ nextO ws a = (some (.leaf w), (ws.length : Int), 0)) ∧
       ((200 < n ∧ nextO ws 0 = (none, a, 4)) ∨ (¬ 200 < n ∧ ∃ t : Tr Wd, t.size = n + 1 ∧ t.deep = n ∧ nextO ws 0 = (some t, a, 0))))) := by
  have hlen := deep_len n op hn
  obtain ⟨f, hf1, hf2⟩ := deep_words (deepText n op).length n op
  have hw := wds_some (by omega) hf1
  have hfl := wds_len (s := deepText n op) (by omega)
  rw [hw] at hfl
  have hkl := words_of_keys hf2
  have hk1 : 0 < (deepKeys n op).length := by unfold deepKeys; simp; omega
  have hk2 : (deepKeys n op).length ≤ 2 * n + 2 := by unfold deepKeys; cases op <;> simp <;> omega
  have hne := next_eq Wd.kind (m := 200) (n := 4 * n + 11) (ws := f) (by omega)
  have h0 : nextO f 0 = ((run Wd.kind 200 f [] false).1, (f.length : Int) - (run Wd.kind 200 f [] false).2.1.length, (run Wd.kind 200 f [] false).2.2) := by
    unfold nextO
    rw [if_neg (by omega)]; rfl
  refine ⟨f, hw, by omega, by omega, ?_⟩
  rw [hne] at h0
  rcases deep_next hf2 (N := 4 * n + 11) (by omega) with ⟨h1, h2, h3⟩ | ⟨h1, y, hy, ⟨pre, hp⟩, h2⟩
  · rw [h3] at h0
    exact .inl ⟨h1, h2, by rw [h0]; simp⟩
  · refine .inr ⟨h1, (f.length : Int) - 1, ⟨y, by have := congrArg Prod.snd hy; exact this, ?_⟩, ?_⟩
    · have hyk : y.kind = 3 := congrArg Prod.fst hy
      have hdr : f.drop ((f.length : Int) - 1).toNat = [y] := by
        have : ((f.length : Int) - 1).toNat = pre.length := by rw [hp, List.length_append]; simp
        rw [this, hp, List.drop_left]
      have hr : run Wd.kind 200 [y] [] false = (some (.leaf y), [], 0) := by
        rw [next_eq Wd.kind (n := 3) (by simp)]
        simp [nextR, treeR, hyk]
      unfold nextO
      rw [if_neg (by omega), hdr, hr]
      simp
    · rcases h2 with ⟨h3, h4⟩ | ⟨h3, t, h4, h5⟩
      · rw [h4] at h0
        exact .inl ⟨h3, by rw [h0]; rfl⟩
      · rw [h5] at h0
        refine .inr ⟨h3, t, ?_, ?_, by rw [h0]; rfl⟩
        · rw [← size_map Lex.key, h4, nest_size]
        · rw [← deep_map Lex.key, h4, nest_deep]
def Tq : Tab := ((((Tab.none.with 8 (pureS sWords)).with 7 (pureS sAwake)).with 9 (pureS sNext)).with 15 (pureS sSize)).with 14 (pureS sDeep)
theorem Tq_ok : TabOk Tryd.prog (base2 m) Tq := Tab.with_ok (Tab.with_ok (Tab.with_ok (Tab.with_ok (Tab.with_ok Tab.none_ok twords_ok) awake_ok) next_ok) size_ok) deep_ok
theorem Tq_mu (f : FuncId) (a : List AVal) (H : Heap) : Tq.mu f a H = none := (rfl)
theorem Tq_1 : Tq.fn 8 = pureS sWords := (rfl)
theorem Tq_2 : Tq.fn 7 = pureS sAwake := (rfl)
theorem Tq_3 : Tq.fn 9 = pureS sNext := (rfl)
theorem Tq_4 : Tq.fn 15 = pureS sSize := (rfl)
theorem Tq_5 : Tq.fn 14 = pureS sDeep := (rfl)
attribute [local simp] Tq_mu Tq_1 Tq_2 Tq_3 Tq_4 Tq_5
theorem next_is {ws : List Wd} (h : ws.length ≤ 65536) {a : Int} {o : Option (Tr Wd)} {b : Int} {e : Nat} (hn : nextO ws a = (o, b, e)) : sNext [.lst (ws.map Wd.v), .int .i64 a] = some (.tup [outP o, .int .i64 b, .int .i64 e]) := by
  simp only [sNext, decW_map]
  rw [if_pos h, hn]
def sDeeps : List PVal → Option PVal
  | [.int .i64 _, .bool _] => some (.bool true)
  | _ => none
theorem deeps_ok : FnOk Tryd.prog (base2 m) 5 (pureS sDeeps) := by
  refine pure_of_vc hmix Tq_ok globNone low5 fun args x hs hf => ?_
  unfold sDeeps at hs
  split at hs
  case h_2 => cases hs
  rename_i n op
  cases hs
  refine ⟨by simp [lf5], ?_⟩
  by_cases hr : n < 0 ∨ 400 < n
  · by_cases h0 : n < 0
    · simp [lf5, h0, aw_is]
    · have h4 := hr.resolve_left h0
      simp [lf5, h0, h4, aw_is]
  · have h0 : ¬ n < 0 := fun h => hr (.inl h)
    have h4 : ¬ 400 < n := fun h => hr (.inr h)
    obtain ⟨k, rfl⟩ : ∃ k : Nat, n = k := ⟨n.toNat, by omega⟩
    obtain ⟨ws, hw1, hw2, hw3, hw4⟩ := deep_facts (n := k) (by omega) op
    simp [lf5, h0, h4]
    simp only [lf5_B0, vc_block]
    refine loop_ind (fun fr H => ∃ i : Nat, i ≤ k ∧ fr 0 = .p (.int .i64 (k : Int)) ∧ fr 1 = .p (.bool op) ∧ fr 6 = .p (.int .i64 (i : Int)) ∧ fr 5 = .p (.str (List.replicate i 40)))
      (fun fr _ => k - ivar (fr 6)) ⟨0, by simp, by simp, by simp, by simp, by simp⟩ ?_
    rintro fr H ⟨i, hi, e0, e1, e6, e5⟩
    by_cases hlt : i < k
    · have hb : i + 1 ≤ maxLen := by unfold maxLen; omega
      have hrep : List.replicate i (40 : UInt8) ++ [40] = List.replicate (i + 1) 40 := List.replicate_succ'.symm
      simp [e0, e1, e6, e5, hlt, binS, hb, hrep, wrap_succ (i := i) (by omega)]
      exact ⟨by omega, by simp only [ivar]; omega⟩
    · have hik : i = k := by omega
      subst hik
      have hb : i + 1 ≤ maxLen := by unfold maxLen; omega
      simp [e0, e1, e6, e5, hlt, binS, hb]
      simp only [lf5_B1, vc_block]
      refine loop_ind (fun fr H => ∃ j : Nat, (j ≤ if op = true then 0 else i) ∧ fr 0 = .p (.int .i64 (i : Int)) ∧ fr 1 = .p (.bool op) ∧ fr 7 = .p (.int .i64 (j : Int)) ∧ fr 5 = .p (.str (List.replicate i 40 ++ 120 :: List.replicate j 41)))
        (fun fr _ => i - ivar (fr 7)) ⟨0, by simp, by simp [e0], by simp [e1], by simp, by simp⟩ ?_
      rintro fr H ⟨j, hj, e0, e1, e7, e5⟩
      by_cases hgo : j < i ∧ op = false
      · obtain ⟨hlj, rfl⟩ := hgo
        have hb : i + (j + 1) + 1 ≤ maxLen := by unfold maxLen; omega
        have hrep : List.replicate j (41 : UInt8) ++ [41] = List.replicate (j + 1) 41 := List.replicate_succ'.symm
        simp [e0, e1, e7, e5, hlj, binS, hb, hrep, wrap_succ (i := j) (by omega)]
        exact ⟨by omega, by simp only [ivar]; omega⟩
      · have hje : j = if op = true then 0 else i := by
          cases op
          · simp at hj hgo ⊢; omega
          · simp at hj ⊢; omega
        have hb2 : i + 1 + 2 ≤ maxLen := by unfold maxLen; omega
        have hb3 : i + (i + 1) + 2 ≤ maxLen := by unfold maxLen; omega
        rcases hw4 with ⟨rfl, g1, g2⟩ | ⟨g1, a, ⟨w, g2, g3⟩, g4⟩
        · simp only [if_true] at hje
          subst hje
          have hwd : sWords [.str (List.replicate i 40 ++ [120, 32, 121])] = some (.lst (ws.map Wd.v)) := by
            rw [← hw1, ← words_is]; simp [deepText]
          by_cases h2 : 200 < i
          · rw [if_pos h2] at g2
            have hn := next_is (by omega) g2
            have h2' : decide ((200 : Int) < (i : Int)) = true := decide_eq_true (by omega)
            simp [e0, e1, e7, e5, binS, g1, hb2, hwd, hn, outP, noP, h2', get_end, set_end, aw_is]
          · rw [if_neg h2] at g2
            have h2' : decide ((200 : Int) < (i : Int)) = false := decide_eq_false (by omega)
            have hn := next_is (by omega) g2
            simp [e0, e1, e7, e5, binS, g1, hb2, hwd, hn, outP, noP, h2', get_end, set_end, aw_is]
        · have hn2 := next_is (by omega) g3
          have hen : encT (Tr.leaf w) = .agg [.bool false, .int .i64 w.kind, .str [121], .int .i64 w.at_, .lst []] := by rw [← g2]; rfl
          simp only [outP, hen] at hn2
          rcases g4 with ⟨g5, g6⟩ | ⟨g5, t, t1, t2, g6⟩
          · have hn := next_is (by omega) g6
            have hop : op = false := g1.resolve_right (by omega)
            subst hop
            simp only [Bool.false_eq_true, if_false] at hje
            subst hje
            have hwd : sWords [.str (List.replicate j 40 ++ 120 :: (List.replicate j 41 ++ [32, 121]))] = some (.lst (ws.map Wd.v)) := by
              rw [← hw1, ← words_is]; simp [deepText]
            have h2' : decide ((200 : Int) < (j : Int)) = true := decide_eq_true (by omega)
            simp [e0, e1, e7, e5, binS, hb3, hwd, hn, hn2, outP, noP, h2', get_end, set_end, aw_is]
          · have hn := next_is (by omega) g6
            have hst : sSize [encT t] = some (.int .i64 ((i : Int) + 1)) := by
              simp only [sSize, decT_enc]
              rw [if_pos (by omega), t1]; rfl
            have hdt : sDeep [encT t] = some (.int .i64 (i : Int)) := by
              simp only [sDeep, decT_enc]
              rw [if_pos (by omega), t2]
            obtain ⟨ub, uk, us, ua, uvs, uen⟩ := encT_shape t
            simp only [outP, uen] at hn
            rw [uen] at hst hdt
            rcases g1 with rfl | rfl
            · simp only [Bool.false_eq_true, if_false] at hje
              subst hje
              have hwd : sWords [.str (List.replicate j 40 ++ 120 :: (List.replicate j 41 ++ [32, 121]))] = some (.lst (ws.map Wd.v)) := by
                rw [← hw1, ← words_is]; simp [deepText]
              have h2' : decide ((200 : Int) < (j : Int)) = false := decide_eq_false (by omega)
              simp [e0, e1, e7, e5, binS, hb3, hwd, hn, hn2, hst, hdt, h2', get_end, set_end, aw_is, wrap_succ (i := j) (by omega)]
            · have hj0 : j = 0 := by cases op <;> simpa using hje
              subst hj0
              have hwd : sWords [.str [120, 32, 121]] = some (.lst (ws.map Wd.v)) := by
                rw [← hw1, ← words_is]; cases op <;> simp [deepText]
              have hm3 : 3 ≤ maxLen := by decide
              have wr1 : IntKind.i64.wrap 1 = 1 := by decide
              cases op <;> simp [e0, e1, e7, e5, binS, hwd, hn, hn2, hst, hdt, get_end, set_end, aw_is, hm3, wr1]
end Go.Proofs.YtdaiicaeklcceaaDoor
