/-
  What the reference's tree, Next and SameTree compute. No conditions beyond the lemmas' own hypotheses.
-/
import Derived.Test.YtcbagnlidecmkaaGreatDoorSexpD
import Derived.Test.YtcbagnlidecmkaaGreatDoorSexpL
set_option linter.unusedSimpArgs false
set_option linter.unnecessarySimpa false
set_option linter.unusedVariables false
set_option linter.constructorNameAsVariable false

/-
 ref11.tree: its contract.
-/
namespace Go.Proofs.YtcbagnlidecmkaaGreatDoor
open Go Go.Abs Go.Lex Go.Sexp
variable {base : Prot}
set_option maxRecDepth 20000
attribute [local simp] pureS touchV freezeL fuel shiftV
theorem fuel_same (k : Wd → Int) : ∀ n : Nat, (∀ (ws : List Wd) (n' : Nat), 2 * ws.length < n → 2 * ws.length < n' → treeR k n ws = treeR k n' ws) ∧
  (∀ (ws : List Wd) (acc : List (Tr Wd)) (d n' : Nat), 2 * ws.length + 1 < n → 2 * ws.length + 1 < n' → kidsR k n ws acc d = kidsR k n' ws acc d)
 | 0 => ⟨fun ws n' h => by omega, fun ws acc d n' h => by omega⟩
 | n + 1 => by
  obtain ⟨i1, i2⟩ := fuel_same k n
  refine ⟨fun ws n' h h' => ?_, fun ws acc d n' h h' => ?_⟩
  ·obtain ⟨m, rfl⟩ : ∃ m, n' = m + 1 := ⟨n' - 1, by omega⟩
   cases ws with
   | nil => rfl
   | cons w ws =>
    simp only [List.length_cons] at h h'
    unfold treeR
    rw [i2 ws [] 1 m (by omega) (by omega)]
  ·obtain ⟨m, rfl⟩ : ∃ m, n' = m + 1 := ⟨n' - 1, by omega⟩
   cases ws with
   | nil => rfl
   | cons w ws =>
    simp only [List.length_cons] at h h'
    have e := i1 (w :: ws) m (by simp only [List.length_cons]; omega) (by simp only [List.length_cons]; omega)
    unfold kidsR
    rw [← e]
    by_cases hk : k w = 2
    ·rw [if_pos hk, if_pos hk]
    ·rw [if_neg hk, if_neg hk]
     by_cases ho : (treeR k n (w :: ws)).2.2.2 = true
     ·have hs := (treeR_short k n).1 (w :: ws) ho
      simp only [List.length_cons] at hs
      rw [if_pos ho, if_pos ho]
      exact i2 _ _ _ m (by omega) (by omega)
     ·rw [if_neg ho, if_neg ho]
def treeO (ws : List Wd) (i : Nat) : Tr Wd × List Wd × Nat × Bool := treeR Wd.kind (2 * (ws.length - i) + 1) (ws.drop i)
def sTreeM (m : Nat) : List PVal → Option PVal
 | [.lst vs, .int .i64 (.ofNat i)] => match decW vs with
  | some ws => if ws.length ≤ 65536 ∧ i < ws.length ∧ ws.length - i < m then some (.tup [encT (treeO ws i).1, .int .i64 ((ws.length - (treeO ws i).2.1.length : Nat) : Int), .int .i64 (treeO ws i).2.2.1, .bool (treeO ws i).2.2.2]) else none
  | none => none
 | _ => none
def OutU (x : AVal) (H : Heap) (l : List (Tr Wd)) : Prop := (x = .tight [] ∧ l = []) ∨ ∃ j ver, x = .own j 0 l.length ver ∧ 1 < j ∧ H[j]? = some (rowE ver false (l.map treeV))
theorem OutU.outT {x : AVal} {H : Heap} {l : List (Tr Wd)} (h : OutU x H l) : OutT x H l := by
 rcases h with h | ⟨j, ver, h1, _, h2⟩
 ·exact .inl h
 ·exact .inr ⟨j, ver, h1, h2⟩
theorem OutU.keep {x : AVal} {H H' : Heap} {l : List (Tr Wd)} (h : OutU x H l) (hH : ∀ j, 1 < j → j < H.length → H'[j]? = H[j]?) : OutU x H' l := by
 rcases h with h | ⟨j, ver, h1, h3, h2⟩
 ·exact .inl h
 ·exact .inr ⟨j, ver, h1, h3, by rw [hH _ h3 (List.getElem?_eq_some_iff.1 h2).1]; exact h2⟩
theorem OutU.app {x : AVal} {H : Heap} {l : List (Tr Wd)} (h : OutU x H l) (hH : 1 < H.length) (hl : l.length < 65536) (t : Tr Wd) : ∃ x' H', appV 5 64 29 x [treeV t] H = some (x', H') ∧ OutU x' H' (l ++ [t]) ∧ H'[0]? = H[0]? ∧ H'[1]? = H[1]? ∧ H.length ≤ H'.length := by
 obtain ⟨b, k, s, a, vs, hen⟩ := encT_shape t
 rcases h with ⟨rfl, rfl⟩ | ⟨j, ver, rfl, h3, h2⟩
 ·exact ⟨.own H.length 0 1 0, H ++ [rowE 0 false [treeV t]], by simp [appV, treeV, hen, rowE, maxLen], .inr ⟨H.length, 0, rfl, hH, by simp⟩, by rw [List.getElem?_append_left (by omega)], by rw [List.getElem?_append_left hH], by simp⟩
 ·have hj := (List.getElem?_eq_some_iff.1 h2).1
  have m1 : (l.length + 1) * 64 ≤ 140737488355328 := by omega
  have m2 : l.length + 1 ≤ maxLen := by unfold maxLen; omega
  refine ⟨.own j 0 (l.length + 1) (ver + 1), H.set j (rowE (ver + 1) false (l.map treeV ++ [treeV t])), ?_, .inr ⟨j, ver + 1, by simp, h3, by simp [hj]⟩, by rw [List.getElem?_set_ne (by omega)], by rw [List.getElem?_set_ne (by omega)], by simp⟩
  unfold rowE at h2
  simp [appV, treeV, hen, rowE, h2, m1, m2]
theorem OutU.kind {x : AVal} {H : Heap} {l : List (Tr Wd)} (h : OutU x H l) : x = .tight [] ∨ ∃ u n v, x = .own u 0 n v := by
 rcases h with ⟨h, _⟩ | ⟨j, ver, h1, _⟩
 ·exact .inl h
 ·exact .inr ⟨_, _, _, h1⟩
end Go.Proofs.YtcbagnlidecmkaaGreatDoor

/-
 ref11.tree: its contract, by steps.
-/
namespace Go.Proofs.YtcbagnlidecmkaaGreatDoor
open Go Go.Abs Go.Lex Go.Sexp
variable {base : Prot}
set_option maxRecDepth 20000
attribute [local simp] pureS touchV freezeL fuel shiftV
theorem deep_len' (k : Wd → Int) : ∀ n : Nat, (∀ ws : List Wd, (treeR k n ws).2.2.1 ≤ ws.length) ∧ (∀ (ws : List Wd) (acc : List (Tr Wd)) (d : Nat), (kidsR k n ws acc d).2.2.1 ≤ max d (ws.length + 1))
 | 0 => ⟨fun ws => by simp [treeR], fun ws acc d => by simp only [kidsR]; omega⟩
 | n + 1 => by
  obtain ⟨i1, i2⟩ := deep_len' k n
  refine ⟨fun ws => ?_, fun ws acc d => ?_⟩
  ·cases ws with
   | nil => simp [treeR]
   | cons w ws =>
    unfold treeR
    have := i2 ws [] 1
    split
    ·simp only [List.length_cons]; omega
    ·simp
  ·cases ws with
   | nil => simp only [kidsR]; omega
   | cons w ws =>
    unfold kidsR
    have h1 := i1 (w :: ws)
    have h3 := (treeR_short k n).2.2.1 (w :: ws)
    have h2 := i2 (treeR k n (w :: ws)).2.1 (acc ++ [(treeR k n (w :: ws)).1]) (max d ((treeR k n (w :: ws)).2.2.1 + 1))
    simp only [List.length_cons] at h1 h3 ⊢
    split
    ·dsimp only; omega
    ·split
     ·omega
     ·dsimp only; omega
theorem treeO_facts {ws : List Wd} {i : Nat} (hi : i < ws.length) : (treeO ws i).2.2.1 ≤ ws.length - i ∧ (treeO ws i).2.1.length ≤ ws.length - i ∧ ws.drop (ws.length - (treeO ws i).2.1.length) = (treeO ws i).2.1 ∧ ((treeO ws i).2.2.2 = true → (treeO ws i).2.1.length < ws.length - i) := by
 have h1 := (deep_len' Wd.kind (2 * (ws.length - i) + 1)).1 (ws.drop i)
 have h2 := (treeR_suffix Wd.kind (2 * (ws.length - i) + 1)).1 (ws.drop i)
 have h3 := h2.length_le
 have h4 := (treeR_short Wd.kind (2 * (ws.length - i) + 1)).1 (ws.drop i)
 rw [List.length_drop] at h1 h3 h4
 exact ⟨h1, h3, (List.suffix_iff_eq_drop.1 (h2.trans (List.drop_suffix i ws))).symm, h4⟩
structure Tst (ws : List Wd) (i : Nat) (acc : List (Tr Wd)) (d : Nat) (fr : AFr) (H : Heap) (kv : AVal) : Prop where
 f0 : fr 0 = .p (.lst (ws.map Wd.v))
 f1 : fr 1 = .p (.int .i64 (i : Int))
 f4 : fr 4 = .optr 0 0 0 0
 f8 : fr 8 = .optr 1 0 0 0
 f9 : fr 9 = .p (.int .i64 (d : Int))
 h0 : ∃ x, H[0]? = some (rowE 0 false [x]) ∧ C5 x
 h1 : H[1]? = some (rowE 0 false [lvE kv])
 kv : OutU kv H acc
theorem Tst.same {ws : List Wd} {i : Nat} {acc : List (Tr Wd)} {d : Nat} {fr fr' : AFr} {H : Heap} {kv : AVal} (h : Tst ws i acc d fr H kv) (hf : ∀ k, k < 14 → fr' k = fr k) : Tst ws i acc d fr' H kv :=
 ⟨(hf 0 (by decide)).trans h.f0, (hf 1 (by decide)).trans h.f1, (hf 4 (by decide)).trans h.f4, (hf 8 (by decide)).trans h.f8, (hf 9 (by decide)).trans h.f9, h.h0, h.h1, h.kv⟩
def TInv (ws : List Wd) (i0 : Nat) (fr : AFr) (H : Heap) : Prop := ∃ i acc d kv n, Tst ws i acc d fr H kv ∧ i0 < i ∧ i ≤ ws.length ∧ acc.length ≤ i ∧ d ≤ ws.length + 1 ∧ 2 * (ws.length - i) + 1 < n ∧ kidsR Wd.kind n (ws.drop i) acc d = treeO ws i0
theorem tree_loop {T : Tab} {m : Nat} (hmu : ∀ (f : FuncId) (a : List AVal) (H : Heap), T.mu f a H = none) (hfn : T.fn 44 = pureS (sTreeM m)) {ws : List Wd} {i0 : Nat} (hw : ws.length ≤ 65536) (hi0 : i0 < ws.length) (him : ws.length - i0 < m + 1)
  (hO : treeO ws i0 = kidsR Wd.kind (2 * (ws.length - i0)) (ws.drop (i0 + 1)) [] 1) {fr : AFr} {H : Heap} (hS : Tst ws (i0 + 1) [] 1 fr H (.tight [])) {Q : LExit → AFr → Heap → Prop}
  (hN : ∀ fr' H' i acc d kv, Tst ws i acc d fr' H' kv → i ≤ ws.length → treeO ws i0 = (.list acc, ws.drop (i + 1), d, decide (i < ws.length)) → Q .normal fr' H')
  (hR : ∀ fr' H' acc kv, fr' 4 = .optr 0 0 0 0 → H'[0]? = some (rowE 0 false [lvE kv]) → OutU kv H' acc → (treeO ws i0).1 = .list acc → fr' 5 = .p (.int .i64 ((ws.length - (treeO ws i0).2.1.length : Nat) : Int)) → fr' 6 = .p (.int .i64 ((treeO ws i0).2.2.1 : Int)) → fr' 7 = .p (.bool false) → (treeO ws i0).2.2.2 = false → Q .ret fr' H') : vc T lf44_B0 Q fr H := by
 have hdw : decW (ws.map Wd.v) = some ws := decW_map ws
 simp only [lf44_B0, vc_block]
 refine loop_ind (TInv ws i0)
  (fun fr _ => ws.length - ivar (fr 1)) ⟨i0 + 1, [], 1, _, _, hS, by omega, by omega, by simp, by omega, by omega, hO.symm⟩ ?_
 rintro fr H ⟨i, acc, d, kv, n, hS, hii, hi, hai, hdl, hn, hk⟩
 obtain ⟨n, rfl⟩ : ∃ g, n = g + 1 := ⟨n - 1, by omega⟩
 have hS' := hS
 obtain ⟨f0, f1, f4, f8, f9, ⟨x, h0, hx⟩, h1, hkv⟩ := hS
 by_cases hlt : i < ws.length
 ·obtain ⟨w, hwi⟩ : ∃ w, ws[i]? = some w := ⟨_, List.getElem?_eq_getElem hlt⟩
  have hdr : ws.drop i = w :: ws.drop (i + 1) := by
   rw [List.drop_eq_getElem_cons hlt]
   rw [List.getElem?_eq_getElem hlt] at hwi
   cases hwi; rfl
  have hg := getE hwi
  rw [hdr] at hk
  unfold kidsR at hk
  by_cases h2 : w.kind = 2
  ·rw [if_pos h2] at hk
   simp [f0, f1, hlt, hg, Wd.v, wordV, h2]
   exact hN _ _ i acc d kv (hS'.same fun k hk => by simp [show ¬ k = 30 by omega, show ¬ k = 31 by omega, show ¬ k = 32 by omega, show ¬ k = 33 by omega, show ¬ k = 34 by omega, show ¬ k = 35 by omega, show ¬ k = 36 by omega, show ¬ k = 37 by omega, show ¬ k = 38 by omega, show ¬ k = 39 by omega, show ¬ k = 40 by omega, show ¬ k = 41 by omega]) hi (by rw [← hk, decide_eq_true hlt])
  ·rw [if_neg h2] at hk
   have b2 : (w.kind != 2) = true := by simpa using h2
   have hsame : treeR Wd.kind n (w :: ws.drop (i + 1)) = treeO ws i := by
    unfold treeO
    rw [← hdr]
    exact (fuel_same Wd.kind n).1 _ _ (by rw [List.length_drop]; omega) (by rw [List.length_drop]; omega)
   rw [hsame] at hk
   obtain ⟨t1, t2, t3, t4⟩ := treeO_facts hlt
   have hst : sTreeM m [.lst (ws.map Wd.v), .int .i64 (i : Int)] = some (.tup [encT (treeO ws i).1, .int .i64 ((ws.length - (treeO ws i).2.1.length : Nat) : Int), .int .i64 (treeO ws i).2.2.1, .bool (treeO ws i).2.2.2]) := by
    show (match decW (ws.map Wd.v) with | some ws => _ | none => none) = _
    rw [hdw]
    simp only
    rw [if_pos ⟨hw, hlt, by omega⟩]
   generalize treeO ws i = R at hk hst t1 t2 t3 t4
   obtain ⟨t, r, dd, ok⟩ := R
   simp only at hk hst t1 t2 t3 t4
   obtain ⟨b, k, s, a, vs, hen⟩ := encT_shape t
   cases ok with
   | false =>
    rw [hen] at hst
    have w1 : IntKind.i64.wrap ((dd : Int) + 1) = (dd : Int) + 1 := IntWalk.i64_in _ (by omega)
    have g0 : ∀ a : Ent, (H ++ [a])[0]? = H[0]? := fun a => List.getElem?_append_left (List.getElem?_eq_some_iff.1 h0).1
    have g1 : ∀ a : Ent, (H ++ [a])[1]? = H[1]? := fun a => List.getElem?_append_left (List.getElem?_eq_some_iff.1 h1).1
    have g0' : ∀ (a : Ent) (h : 0 < (H ++ [a]).length), (H ++ [a])[0]'h = rowE 0 false [x] := fun a => getE ((g0 a).trans h0)
    have g1' : ∀ (a : Ent) (h : 1 < (H ++ [a]).length), (H ++ [a])[1]'h = rowE 0 false [lvE kv] := fun a => getE ((g1 a).trans h1)
    unfold rowE lvE at h1 g1'
    unfold rowE at h0 g0'
    rcases hkv.kind with rfl | ⟨u, nn, vv, rfl⟩
    all_goals
     cases hx
     all_goals
      simp [f0, f1, f4, f8, f9, hlt, hg, Wd.v, wordV, b2, hmu, hfn, hst, get_end, set_end, h1, h0, g0, g1, g0', g1', w1]
      refine hR _ _ acc _ (by simp [f4]) ?_ (hkv.keep fun j h1 h2 => by rw [List.getElem?_set_ne (by omega), List.getElem?_append_left h2]) (by rw [← hk] <;> rfl) (by rw [← hk] <;> simp) ?_ (by simp) (by rw [← hk] <;> rfl)
      ·rw [List.getElem?_set_self (by simp)]; rfl
      ·rw [← hk]
       simp only [Bool.false_eq_true, if_false, upd_app]
       simp
       omega
   | true =>
    rw [hen] at hst
    have hlr := t4 rfl
    have w1 : IntKind.i64.wrap ((dd : Int) + 1) = (dd : Int) + 1 := IntWalk.i64_in _ (by omega)
    have hl1 : 1 < H.length := (List.getElem?_eq_some_iff.1 h1).1
    obtain ⟨x', H', e1, e2, e3, e4, e5⟩ := (hkv.keep (H' := H ++ [rowE 0 false [treeV t], rowE 0 false [treeV t]]) fun j _ hj => by rw [List.getElem?_append_left hj]).app (by simp) (by omega) t
    rw [List.getElem?_append_left (by omega), h0] at e3
    rw [List.getElem?_append_left hl1, h1] at e4
    have hl1' : 1 < H'.length := (List.getElem?_eq_some_iff.1 e4).1
    have g2 : ∀ a b : Ent, (H ++ [a, b])[H.length + 1]? = some b := fun a b => by
     rw [List.getElem?_append_right (by omega)]; simp
    have g1' : ∀ (a : Ent) (h : 1 < (H ++ [a]).length), (H ++ [a])[1]'h = rowE 0 false [lvE kv] := fun a => getE ((List.getElem?_append_left hl1).trans h1)
    have g1'' : ∀ (a b : Ent) (h : 1 < (H ++ [a, b]).length), (H ++ [a, b])[1]'h = rowE 0 false [lvE kv] := fun a b => getE ((List.getElem?_append_left hl1).trans h1)
    have g1 : ∀ E : Heap, (H ++ E)[1]? = some (rowE 0 false [lvE kv]) := fun E => (List.getElem?_append_left hl1).trans h1
    have hinv : ∀ fr' : AFr, fr' 0 = fr 0 → fr' 1 = .p (.int .i64 ((ws.length - r.length : Nat) : Int)) → fr' 4 = fr 4 → fr' 8 = fr 8 → fr' 9 = .p (.int .i64 ((max d (dd + 1) : Nat) : Int)) →
      TInv ws i0 fr' (H'.set 1 (rowE 0 false [lvE x'])) := fun fr' q0 q1 q4 q8 q9 =>
     ⟨ws.length - r.length, acc ++ [t], max d (dd + 1), x', n, ⟨q0.trans f0, q1, q4.trans f4, q8.trans f8, q9, ⟨x, by rw [List.getElem?_set_ne (by decide)]; exact e3, hx⟩, by rw [List.getElem?_set_self hl1'], e2.keep fun j hj _ => by rw [List.getElem?_set_ne (by omega)]⟩, by omega, by omega, by simp; omega, by omega, by omega, by rw [t3]; exact hk⟩
    unfold rowE treeV at e1
    rw [hen] at e1
    unfold rowE lvE at h1 e4 g1 g1' g1'' hinv
    rcases hkv.kind with rfl | ⟨u, nn, vv, rfl⟩
    all_goals
     rcases e2.kind with rfl | ⟨u', nn', vv', rfl⟩
     all_goals
      simp [f0, f1, f4, f8, f9, hlt, hg, Wd.v, wordV, b2, hmu, hfn, hst, get_end, set_end, h1, g1, g1', g1'', g2, w1, fillS, List.replicate, e1, e4, -appV]
      exact ⟨hinv _ (by simp [f0]) (by simp) (by simp [f4]) (by simp [f8]) (by simp; omega), by simp only [ivar]; omega⟩
 ·have hil : i = ws.length := by omega
  subst hil
  rw [List.drop_length] at hk
  simp only [kidsR] at hk
  simp [f0, f1]
  refine hN _ _ ws.length acc d kv (hS'.same fun k hk => by simp [show ¬ k = 30 by omega, show ¬ k = 31 by omega, show ¬ k = 32 by omega, show ¬ k = 33 by omega, show ¬ k = 34 by omega, show ¬ k = 35 by omega, show ¬ k = 36 by omega, show ¬ k = 37 by omega, show ¬ k = 38 by omega, show ¬ k = 39 by omega, show ¬ k = 40 by omega, show ¬ k = 41 by omega]) hi ?_
  rw [← hk, decide_eq_false hlt, List.drop_eq_nil_of_le (by omega)]
theorem tree_step (m : Nat) (ih : FnOk Tryz.prog base 44 (pureS (sTreeM m))) : FnOk Tryz.prog base 44 (pureS (sTreeM (m + 1))) := by
 have hT : TabOk Tryz.prog base (Tab.none.with 44 (pureS (sTreeM m))) := Tab.with_ok Tab.none_ok ih
 have hmu : ∀ (f : FuncId) (a : List AVal) (H : Heap), (Tab.none.with 44 (pureS (sTreeM m))).mu f a H = none := fun _ _ _ => rfl
 have hfn : (Tab.none.with 44 (pureS (sTreeM m))).fn 44 = pureS (sTreeM m) := by unfold Tab.with; funext a; simp
 generalize Tab.none.with 44 (pureS (sTreeM m)) = T at hT hmu hfn
 refine pure_of_vc hmix hT globNone low44 fun args x hs hf => ?_
 unfold sTreeM at hs
 split at hs
 case h_2 => cases hs
 rename_i vs i0
 split at hs
 case h_2 => cases hs
 rename_i ws hd
 split at hs
 case isFalse => cases hs
 rename_i hw
 obtain ⟨hw, hi0, him⟩ := hw
 have := decW_some hd
 subst this
 cases hs
 have hdw : decW (ws.map Wd.v) = some ws := decW_map ws
 refine ⟨by simp [lf44], ?_⟩
 obtain ⟨w, hwi⟩ : ∃ w, ws[i0]? = some w := ⟨_, List.getElem?_eq_getElem hi0⟩
 have hdr : ws.drop i0 = w :: ws.drop (i0 + 1) := by
  rw [List.drop_eq_getElem_cons hi0]
  rw [List.getElem?_eq_getElem hi0] at hwi
  cases hwi; rfl
 have hg := getE hwi
 have hni : Int.ofNat i0 = (i0 : Int) := rfl
 by_cases h1 : w.kind = 1
 ·have hO : treeO ws i0 = kidsR Wd.kind (2 * (ws.length - i0)) (ws.drop (i0 + 1)) [] 1 := by
   unfold treeO
   rw [hdr]
   unfold treeR
   rw [if_pos h1]
  have fin : ∀ (fr' : AFr) (H' : Heap) (acc : List (Tr Wd)) (kv : AVal) (a d : Int) (ok : Bool), fr' 4 = .optr 0 0 0 0 → H'[0]? = some (rowE 0 false [lvE kv]) → OutU kv H' acc → fr' 5 = .p (.int .i64 a) → fr' 6 = .p (.int .i64 d) → fr' 7 = .p (.bool ok) →
    finishP T lf44.results fr' H' = some (.tup [encT (.list acc), .int .i64 a, .int .i64 d, .bool ok]) := fun fr' H' acc kv a d ok q4 q0 qk q5 q6 q7 => by
   have hres := qk.outT.res 5
   unfold rowE lvE at q0
   rcases qk with ⟨rfl, rfl⟩ | ⟨u, uv, rfl, _, _⟩
   ·simp [lf44, q4, q0, q5, q6, q7, encT, encL]
   ·simp [lf44, q4, q0, q5, q6, q7, -resolveV]
    simp only [resolveV, mapO] at hres ⊢
    simp only [hres, encT]
  have hres : lf44.results = [.cell 4 5 true, .slot 5, .slot 6, .slot 7] := rfl
  rw [hres] at fin ⊢
  simp [lf44, hni, hi0, hg, Wd.v, wordV, h1, fillA, wrap_succ (i := i0) (by omega), -endQ]
  refine tree_loop hmu hfn hw hi0 him hO ⟨by simp, by simp, by simp, by simp, by simp, ⟨noTree, by simp [rowE, noTree], .a ..⟩, by simp [rowE, lvE], .inl ⟨rfl, rfl⟩⟩ (fun fr' H' i acc d kv hS hi hO2 => ?_) (fun fr' H' acc kv q4 q0 qk e1 q5 q6 q7 e4 => ?_)
  ·obtain ⟨f0, f1, f4, f8, f9, ⟨x, h0, hx⟩, h1', hkv⟩ := hS
   have hl0 := (List.getElem?_eq_some_iff.1 h0).1
   have key : ∀ fr2 : AFr, fr2 4 = .optr 0 0 0 0 → fr2 5 = .p (.int .i64 ((ws.length - (ws.drop (i + 1)).length : Nat) : Int)) → fr2 6 = .p (.int .i64 (d : Int)) → fr2 7 = .p (.bool (decide (i < ws.length))) →
     endQ T [.cell 4 5 true, .slot 5, .slot 6, .slot 7] (.tup [encT (treeO ws i0).1, .int .i64 ((ws.length - (treeO ws i0).2.1.length : Nat) : Int), .int .i64 ((treeO ws i0).2.2.1 : Int), .bool (treeO ws i0).2.2.2]) .ret fr2 (H'.set 0 (rowE 0 false [lvE kv])) := fun fr2 q4 q5 q6 q7 => by
    rw [hO2]
    exact fin fr2 _ acc kv _ _ _ q4 (by rw [List.getElem?_set_self hl0]) (hkv.keep fun j h1 h2 => by rw [List.getElem?_set_ne (by omega)]) q5 q6 q7
   have hm : ((ws.length - (ws.drop (i + 1)).length : Nat) : Int) = if (ws.length : Int) < (i : Int) + 1 then (ws.length : Int) else (i : Int) + 1 := by
    rw [List.length_drop]
    split <;> omega
   rw [hm] at key
   unfold rowE lvE at h1' key
   unfold rowE at h0
   rcases hkv.kind with rfl | ⟨u, nn, vv, rfl⟩
   all_goals
    cases hx
    all_goals
     simp [f0, f1, f4, f8, f9, h0, h1', wrap_succ (i := i) (by omega), -endQ]
     exact key _ (by simp [f4]) (by simp) (by simp) (by simp)
  ·show endQ T [.cell 4 5 true, .slot 5, .slot 6, .slot 7] _ .ret fr' H'
   have := fin fr' H' acc kv _ _ _ q4 q0 qk q5 q6 q7
   rw [← e1, ← e4] at this
   exact this
 ·have b1 : (w.kind != 1) = true := by simpa using h1
  have hO : treeO ws i0 = (.leaf w, ws.drop (i0 + 1), 0, true) := by
   unfold treeO
   rw [hdr]
   unfold treeR
   rw [if_neg h1]
  rw [hO]
  have hsub : ((ws.length - (ws.length - (i0 + 1)) : Nat) : Int) = (i0 : Int) + 1 := by omega
  simp [lf44, hni, hi0, hg, Wd.v, wordV, b1, encT, hsub, wrap_succ (i := i0) (by omega)]
def sTree : List PVal → Option PVal
 | [.lst vs, .int .i64 (.ofNat i)] => match decW vs with
  | some ws => if ws.length ≤ 65536 ∧ i < ws.length then some (.tup [encT (treeO ws i).1, .int .i64 ((ws.length - (treeO ws i).2.1.length : Nat) : Int), .int .i64 (treeO ws i).2.2.1, .bool (treeO ws i).2.2.2]) else none
  | none => none
 | _ => none
theorem tree_ok' : FnOk Tryz.prog base 44 (pureS sTree) := by
 refine FnOk.union (s := sTreeM) (FnOk.steps ?_ tree_step) fun args x hs => ?_
 ·refine pure_of_vc hmix Tab.none_ok globNone low44 fun args x hs hf => ?_
  exfalso
  unfold sTreeM at hs
  split at hs
  case h_2 => cases hs
  split at hs
  case h_2 => cases hs
  rw [if_neg (by omega)] at hs
  cases hs
 ·unfold sTree at hs
  split at hs
  case h_2 => cases hs
  rename_i vs i
  split at hs
  case h_2 => cases hs
  rename_i ws hd
  split at hs
  case isFalse => cases hs
  rename_i hw
  exact ⟨ws.length + 1, by simp only [sTreeM, hd]; rw [if_pos (by omega)]; exact hs⟩
end Go.Proofs.YtcbagnlidecmkaaGreatDoor

/-
 ref11.Next: its contract.
-/
namespace Go.Proofs.YtcbagnlidecmkaaGreatDoor
open Go Go.Abs Go.Lex Go.Sexp
variable {base : Prot}
set_option maxRecDepth 20000
attribute [local simp] pureS touchV freezeL fuel shiftV
def Tnr : Tab := Tab.none.with 44 (pureS sTree)
theorem Tnr_ok : TabOk Tryz.prog base Tnr := Tab.with_ok Tab.none_ok tree_ok'
theorem Tnr_mu (f : FuncId) (a : List AVal) (H : Heap) : Tnr.mu f a H = none := (rfl)
theorem Tnr_17 : Tnr.fn 44 = pureS sTree := (rfl)
attribute [local simp] Tnr_mu Tnr_17
theorem rnext_ok : FnOk Tryz.prog base 21 (pureS sNext) := by
 refine pure_of_vc hmix Tnr_ok globNone low21 fun args x hs hf => ?_
 unfold sNext at hs
 split at hs
 case h_2 => cases hs
 rename_i vs at_
 split at hs
 case h_2 => cases hs
 rename_i ws hd
 split at hs
 case isFalse => cases hs
 rename_i hw
 have := decW_some hd
 subst this
 cases hs
 have hdw : decW (ws.map Wd.v) = some ws := decW_map ws
 refine ⟨by simp [lf21], ?_⟩
 by_cases ha : at_ < 0 ∨ (ws.length : Int) ≤ at_
 ·unfold nextO
  rw [if_pos ha]
  by_cases h1 : at_ < 0
  ·simp [lf21, h1, outP, noP]
  ·have h2 : (ws.length : Int) ≤ at_ := by omega
   simp [lf21, h1, h2, outP, noP]
 ·obtain ⟨i, rfl⟩ : ∃ i : Nat, at_ = i := ⟨at_.toNat, by omega⟩
  have hi : i < ws.length := by omega
  have h2 : ¬ (i : Int) < 0 := by omega
  have h3 : ¬ (ws.length : Int) ≤ i := by omega
  obtain ⟨w, hwi⟩ : ∃ w, ws[i]? = some w := ⟨_, List.getElem?_eq_getElem hi⟩
  have hdr : ws.drop i = w :: ws.drop (i + 1) := by
   rw [List.drop_eq_getElem_cons hi]
   rw [List.getElem?_eq_getElem hi] at hwi
   cases hwi; rfl
  have hg := getE hwi
  obtain ⟨r, n1, n2, n3, n4, n5, n6⟩ := next_in hi
  rw [n5]
  have hT : treeR Wd.kind (2 * ws.length + 1) (ws.drop i) = treeO ws i := (fuel_same Wd.kind _).1 _ _ (by rw [List.length_drop]; omega) (by rw [List.length_drop]; omega)
  rw [hdr] at n2 ⊢ hT
  unfold nextR at n2 ⊢
  simp only [hT] at n2 ⊢
  have hst : sTree [.lst (ws.map Wd.v), .int .i64 (i : Int)] = some (.tup [encT (treeO ws i).1, .int .i64 ((ws.length - (treeO ws i).2.1.length : Nat) : Int), .int .i64 (treeO ws i).2.2.1, .bool (treeO ws i).2.2.2]) := by
   show (match decW (ws.map Wd.v) with | some ws => _ | none => none) = _
   rw [hdw]
   simp only
   rw [if_pos ⟨hw, hi⟩]
  by_cases hk : w.kind = 2
  ·rw [if_pos hk] at n2 ⊢
   simp only at n2
   have e1 : ((ws.length - r.length : Nat) : Int) = (i : Int) + 1 := by rw [← n2, List.length_drop]; omega
   simp [lf21, h2, h3, hg, hi, Wd.v, wordV, hk, outP, noP, e1, wrap_succ (i := i) (by omega)]
  ·rw [if_neg hk] at n2 ⊢
   have b2 : (w.kind == 2) = false := by simpa using hk
   obtain ⟨b, k, s, a, vs, hen⟩ := encT_shape (treeO ws i).1
   rw [hen] at hst
   by_cases hd2 : 200 < (treeO ws i).2.2.1
   ·rw [if_pos hd2] at n2 ⊢
    simp only at n2
    subst n2
    have hd3 : (200 : Int) < (treeO ws i).2.2.1 := by omega
    simp [lf21, h2, h3, hg, hi, Wd.v, wordV, b2, outP, noP, hst, hd3]
   ·rw [if_neg hd2] at n2 ⊢
    have hd3 : ¬ (200 : Int) < (treeO ws i).2.2.1 := by omega
    cases hok : (treeO ws i).2.2.2 with
    | false =>
     rw [if_pos hok] at n2
     rw [if_pos rfl]
     simp only at n2
     subst n2
     rw [hok] at hst
     simp [lf21, h2, h3, hg, hi, Wd.v, wordV, b2, outP, noP, hst, hd3]
    | true =>
     rw [if_neg (by simp [hok])] at n2
     rw [if_neg (by decide)]
     simp only at n2
     subst n2
     rw [hok] at hst
     simp [lf21, h2, h3, hg, hi, Wd.v, wordV, b2, outP, hen, hst, hd3]
end Go.Proofs.YtcbagnlidecmkaaGreatDoor

/-
 ref11.SameTree at trees of the same words; law12.words.
-/
namespace Go.Proofs.YtcbagnlidecmkaaGreatDoor
open Go Go.Abs Go.Lex Go.Sexp
variable {base : Prot}
set_option maxRecDepth 20000
attribute [local simp] pureS touchV freezeL fuel shiftV
open Classical in
noncomputable def sSameTM (m : Nat) : List PVal → Option PVal
 | [v, u] => match decT v, decT u with
  | some a, some b => if a.size < m ∧ a.size ≤ 1000000 ∧ a.map Lex.key = b.map Lex.key then some (.bool true) else none
  | _, _ => none
 | _ => none
theorem same_step (m : Nat) (ih : FnOk Tryz.prog base 33 (pureS (sSameTM m))) : FnOk Tryz.prog base 33 (pureS (sSameTM (m + 1))) := by
 have hT : TabOk Tryz.prog base (Tab.none.with 33 (pureS (sSameTM m))) := Tab.with_ok Tab.none_ok ih
 have hmu : ∀ (f : FuncId) (a : List AVal) (H : Heap), (Tab.none.with 33 (pureS (sSameTM m))).mu f a H = none := fun _ _ _ => rfl
 have hfn : (Tab.none.with 33 (pureS (sSameTM m))).fn 33 = pureS (sSameTM m) := by unfold Tab.with; funext a; simp
 generalize Tab.none.with 33 (pureS (sSameTM m)) = T at hT hmu hfn
 refine pure_of_vc hmix hT globNone low33 fun args x hs hf => ?_
 unfold sSameTM at hs
 split at hs
 case h_2 => cases hs
 rename_i v u
 split at hs
 case h_2 => cases hs
 rename_i a b hda hdb
 split at hs
 case isFalse => cases hs
 rename_i hw
 obtain ⟨hm, hb, he⟩ := hw
 have := decT_some hda
 subst this
 have := decT_some hdb
 subst this
 cases hs
 refine ⟨by simp [lf33], ?_⟩
 cases a with
 | leaf w =>
  cases b with
  | leaf w' =>
   simp only [Tr.map, Tr.leaf.injEq, Lex.key, Prod.mk.injEq] at he
   obtain ⟨e1, e2⟩ := he
   simp [lf33, encT, e1, e2, binS]
   simp only [lf33_B0, vc_block]
   refine loop_ind (fun fr H => fr 5 = .p (.int .i64 0) ∧ fr 2 = .optr 0 0 0 0 ∧ H[0]? = some ⟨5, 0, false, [.p (.agg [.bool false, .int .i64 w'.kind, .str w'.text, .int .i64 w.at_, .lst []])], 29⟩) (fun _ _ => 0) ⟨by simp, by simp, by simp⟩ ?_
   rintro fr H ⟨h5, h2, h0⟩
   simp [h5, h2, h0]
  | list kids => simp [Tr.map] at he
 | list kids =>
  cases b with
  | leaf w' => simp [Tr.map] at he
  | list kids' =>
   simp only [Tr.map, Tr.list.injEq, mapL_eq] at he
   have hlen : kids.length = kids'.length := by have := congrArg List.length he; simpa using this
   simp only [Tr.size] at hm hb
   have hkl := len_size kids
   simp [lf33, encT, encL_len, hlen, binS]
   simp only [lf33_B0, vc_block]
   refine loop_ind (fun fr H => ∃ i : Nat, i ≤ kids.length ∧ fr 5 = .p (.int .i64 (i : Int)) ∧ fr 2 = .optr 0 0 0 0 ∧ fr 3 = .optr 1 0 0 0 ∧ H[0]? = some ⟨5, 0, false, [.p (.agg [.bool true, .int .i64 0, .str [], .int .i64 0, .lst (encL kids)])], 29⟩ ∧ H[1]? = some ⟨5, 0, false, [.p (.agg [.bool true, .int .i64 0, .str [], .int .i64 0, .lst (encL kids')])], 29⟩)
    (fun fr _ => kids.length - ivar (fr 5)) ⟨0, by simp, by simp, by simp, by simp, by simp, by simp⟩ ?_
   rintro fr H ⟨i, hi, h5, h2, h3, h0, h1⟩
   by_cases hlt : i < kids.length
   ·have hlt' : i < kids'.length := by omega
    obtain ⟨a, hai⟩ : ∃ a, kids[i]? = some a := ⟨_, List.getElem?_eq_getElem hlt⟩
    obtain ⟨b, hbi⟩ : ∃ b, kids'[i]? = some b := ⟨_, List.getElem?_eq_getElem hlt'⟩
    have hab : a.map Lex.key = b.map Lex.key := by
     have := congrArg (fun l => l[i]?) he
     simp only [List.getElem?_map, hai, hbi, Option.map_some, Option.some.injEq] at this
     exact this
    have hga := encL_get hai
    have hgb := encL_get hbi
    have ht1 := size_mem (List.mem_of_getElem? hai)
    have hst : sSameTM m [encT a, encT b] = some (.bool true) := by
     simp only [sSameTM, decT_enc]
     rw [if_pos ⟨by omega, by omega, hab⟩]
    obtain ⟨c1, c2, c3, c4, c5, hea⟩ := encT_shape a
    obtain ⟨d1, d2, d3, d4, d5, heb⟩ := encT_shape b
    rw [hea] at hga
    rw [heb] at hgb
    rw [hea, heb] at hst
    have hga' := getE hga
    have hgb' := getE hgb
    simp [h5, h2, h3, h0, h1, encL_len, hlt, hlt', hga, hgb, hga', hgb', hmu, hfn, hst, wrap_succ (i := i) (by omega)]
    exact ⟨⟨i + 1, by omega, by simp⟩, by simp only [ivar]; omega⟩
   ·have hil : i = kids.length := by omega
    subst hil
    simp [h5, h2, h3, h0, h1, encL_len]
open Classical in
noncomputable def sSameT : List PVal → Option PVal
 | [v, u] => match decT v, decT u with
  | some a, some b => if a.size ≤ 1000000 ∧ a.map Lex.key = b.map Lex.key then some (.bool true) else none
  | _, _ => none
 | _ => none
theorem sameT_ok : FnOk Tryz.prog base 33 (pureS sSameT) := by
 refine FnOk.union (s := sSameTM) (FnOk.steps ?_ same_step) fun args x hs => ?_
 ·refine pure_of_vc hmix Tab.none_ok globNone low33 fun args x hs hf => ?_
  exfalso
  unfold sSameTM at hs
  split at hs
  case h_2 => cases hs
  split at hs
  case h_2 => cases hs
  rw [if_neg (by omega)] at hs
  cases hs
 ·unfold sSameT at hs
  split at hs
  case h_2 => cases hs
  rename_i v u
  split at hs
  case h_2 => cases hs
  rename_i a b hda hdb
  split at hs
  case isFalse => cases hs
  rename_i hw
  exact ⟨a.size + 1, by simp only [sSameTM, hda, hdb]; rw [if_pos ⟨by omega, hw.1, hw.2⟩]; exact hs⟩
end Go.Proofs.YtcbagnlidecmkaaGreatDoor

/-
 law12.words.
-/
namespace Go.Proofs.YtcbagnlidecmkaaGreatDoor
open Go Go.Abs Go.Lex Go.Sexp
variable {base : Prot}
set_option maxRecDepth 20000
attribute [local simp] pureS touchV freezeL fuel shiftV
def Twd : Tab := Tab.none.with 20 (pureS sAll)
theorem Twd_mu (f : FuncId) (a : List AVal) (H : Heap) : Twd.mu f a H = none := (rfl)
theorem Twd_16 : Twd.fn 20 = pureS sAll := (rfl)
attribute [local simp] Twd_mu Twd_16
end Go.Proofs.YtcbagnlidecmkaaGreatDoor
