/-
  LexBack returns true for every input: the tied card of the row. No conditions beyond the row's own.
-/
import Derived.Test.YthnkmebnigefaaaDoorLexJ
import Derived.Test.YthnkmebnigefaaaDoorLexI
import Derived.Test.YthnkmebnigefaaaDoorLexH
import Derived.SliceStrings
set_option linter.unusedSimpArgs false
set_option linter.unusedVariables false
set_option linter.constructorNameAsVariable false

/-
  lex: names that are written are read.
-/
namespace Go.Proofs.YthnkmebnigefaaaDoor
open Go Go.Abs
set_option maxRecDepth 20000

def fills : List (List UInt8) := [[32], [10], [9, 13, 10], [32, 59, 32, 97, 32, 40, 32, 110, 111, 116, 101, 10], [59, 124, 13], [32, 32]]

theorem skip_fill {f : List UInt8} (hf : f ∈ fills) {c : UInt8} (h1 : isBlank c = false) (h2 : c ≠ 59) (x : List UInt8) : skip (f ++ c :: x) = c :: x := by
  have hb : ∀ (d : UInt8) (l : List UInt8), isBlank d = true → skip (d :: l) = skip l := fun d l h => skip_blank h l
  have b32 := fun l => hb 32 l (by decide)
  have b10 := fun l => hb 10 l (by decide)
  have b13 := fun l => hb 13 l (by decide)
  have b9 := fun l => hb 9 l (by decide)
  simp only [fills, List.mem_cons, List.not_mem_nil, or_false] at hf
  rcases hf with rfl | rfl | rfl | rfl | rfl | rfl
  · simp only [List.cons_append, List.nil_append, b32, skip_word h1 h2]
  · simp only [List.cons_append, List.nil_append, b10, skip_word h1 h2]
  · simp only [List.cons_append, List.nil_append, b9, b13, b10, skip_word h1 h2]
  · simp only [List.cons_append, List.nil_append, b32]
    rw [skip_note]
    have n : ∀ (d : UInt8) (l : List UInt8), isNoBreak d = true → (d :: l).dropWhile isNoBreak = l.dropWhile isNoBreak := fun d l h => by rw [List.dropWhile_cons, if_pos h]
    have e : ∀ (d : UInt8) (l : List UInt8), isNoBreak d = false → (d :: l).dropWhile isNoBreak = d :: l := fun d l h => by rw [List.dropWhile_cons, if_neg (by simp [h])]
    rw [n 59 _ (by decide), n 32 _ (by decide), n 97 _ (by decide), n 32 _ (by decide), n 40 _ (by decide), n 32 _ (by decide), n 110 _ (by decide), n 111 _ (by decide), n 116 _ (by decide), n 101 _ (by decide), e 10 _ (by decide), b10, skip_word h1 h2]
  · simp only [List.cons_append, List.nil_append]
    rw [skip_note]
    have n : ∀ (d : UInt8) (l : List UInt8), isNoBreak d = true → (d :: l).dropWhile isNoBreak = l.dropWhile isNoBreak := fun d l h => by rw [List.dropWhile_cons, if_pos h]
    have e : ∀ (d : UInt8) (l : List UInt8), isNoBreak d = false → (d :: l).dropWhile isNoBreak = d :: l := fun d l h => by rw [List.dropWhile_cons, if_neg (by simp [h])]
    rw [n 59 _ (by decide), n 124 _ (by decide), e 13 _ (by decide), b13, skip_word h1 h2]
  · simp only [List.cons_append, List.nil_append, b32, skip_word h1 h2]

theorem tk_all {p : UInt8 → Bool} : ∀ {l : List UInt8}, l.all p = true → l.takeWhile p = l ∧ l.dropWhile p = []
  | [], _ => ⟨rfl, rfl⟩
  | c :: l, h => by
    simp only [List.all_cons, Bool.and_eq_true] at h
    obtain ⟨h1, h2⟩ := tk_all h.2
    rw [List.takeWhile_cons, List.dropWhile_cons, if_pos h.1, if_pos h.1, h1]
    exact ⟨rfl, h2⟩

theorem sign_ne {c d : UInt8} (h : isSign c = true) (hd : isSign d = false) : c ≠ d := by
  rintro rfl
  rw [h] at hd
  cases hd

/-- A quoted name is one word. -/
theorem quote_word {s q : List UInt8} (h : quoteS s = some q) : ∃ c r, q = c :: r ∧ isBlank c = false ∧ c ≠ 59 ∧ wordS (c :: r) = (.tup [wordV 3 s 0, .bool true], []) := by
  unfold quoteS at h
  split at h
  · rename_i hp
    cases h
    simp only [Bool.and_eq_true] at hp
    have hp := hp.1
    cases s with
    | nil => simp [isPlain] at hp
    | cons c r =>
      unfold isPlain at hp
      simp only [Bool.and_eq_true, Bool.not_eq_true'] at hp
      obtain ⟨hall, hdig⟩ := hp
      have hc : isSign c = true := by simp only [List.all_cons, Bool.and_eq_true] at hall; exact hall.1
      refine ⟨c, r, rfl, ?_, sign_ne hc (by decide), ?_⟩
      · have h1 := sign_ne hc (d := 32) (by decide)
        have h2 := sign_ne hc (d := 9) (by decide)
        have h3 := sign_ne hc (d := 10) (by decide)
        have h4 := sign_ne hc (d := 13) (by decide)
        simp [isBlank, h1, h2, h3, h4]
      · obtain ⟨t1, t2⟩ := tk_all hall
        simp only [wordS]
        rw [if_neg (sign_ne hc (by decide)), if_neg (sign_ne hc (by decide)), if_neg (sign_ne hc (by decide)), if_neg (sign_ne hc (by decide)), if_neg (sign_ne hc (by decide)), if_neg (by simp [hdig]), t1, t2]
        rfl
  · split at h
    · rename_i hb
      cases h
      obtain ⟨t1, t2⟩ := tk_all hb
      refine ⟨124, s ++ [124], rfl, by decide, by decide, ?_⟩
      have e : wordS (124 :: (s ++ [124])) = quoS (124 :: (s ++ [124])) := by simp [wordS]
      rw [e]
      unfold quoS
      simp only [List.drop_succ_cons, List.drop_zero]
      rw [dw_app (by decide), tk_app (by decide), t1, t2]
      rfl
    · cases h

/-- A text of names: what stands before each, and the name. -/
def txt (items : List (List UInt8 × List UInt8)) : List UInt8 := (items.map fun p => p.1 ++ (quoteS p.2).getD []).flatten

def Fine (items : List (List UInt8 × List UInt8)) : Prop := ∀ p ∈ items, p.1 ∈ fills ∧ (quoteS p.2).isSome = true

theorem fill_head {f : List UInt8} (hf : f ∈ fills) : ∃ s b, f = s :: b ∧ isSign s = false ∧ s ≠ 34 := by
  simp only [fills, List.mem_cons, List.not_mem_nil, or_false] at hf
  rcases hf with rfl | rfl | rfl | rfl | rfl | rfl <;> exact ⟨_, _, rfl, by decide, by decide⟩

theorem txt_head : ∀ {items : List (List UInt8 × List UInt8)}, Fine items → ∃ s b, txt items ++ [32] = s :: b ∧ isSign s = false ∧ s ≠ 34
  | [], _ => ⟨32, [], rfl, by decide, by decide⟩
  | p :: items, h => by
    obtain ⟨s, b, hs, h1, h2⟩ := fill_head (h p (by simp)).1
    refine ⟨s, b ++ ((quoteS p.2).getD [] ++ (txt items ++ [32])), ?_, h1, h2⟩
    simp only [txt, List.map_cons, List.flatten_cons, hs, List.cons_append, List.append_assoc]

theorem lex_back (N : Nat) : ∀ {items : List (List UInt8 × List UInt8)}, Fine items → ∃ ws, lexL N (txt items ++ [32]) = some ws ∧ ws.map (fun w => (w.kind, w.text)) = items.map (fun p => ((3 : Int), p.2))
  | [], _ => ⟨[], by rw [lexL_eq]; rfl, rfl⟩
  | p :: items, h => by
    have hF : Fine items := fun p hp => h p (by simp [hp])
    obtain ⟨ws, hws, hmap⟩ := lex_back N hF
    obtain ⟨hf, hq⟩ := h p (by simp)
    obtain ⟨q, hq⟩ := Option.isSome_iff_exists.1 hq
    obtain ⟨c, r, rfl, hb, h59, hword⟩ := quote_word hq
    obtain ⟨s, b, hsb, h1, h2⟩ := txt_head hF
    have e : txt (p :: items) ++ [32] = p.1 ++ c :: (r ++ s :: b) := by
      rw [← hsb]
      simp only [txt, List.map_cons, List.flatten_cons, hq, Option.getD_some, List.append_assoc, List.cons_append]
    have hw := wordS_app h1 h2 b (c := c) (r := r) (by rw [hword]; rfl)
    rw [hword] at hw
    rw [e, lexL_eq, skip_fill hf hb h59]
    simp only [hw, ansK, wordV, List.nil_append]
    rw [← hsb, hws]
    exact ⟨_, rfl, by simp [hmap]⟩
end Go.Proofs.YthnkmebnigefaaaDoor

/-
  lex: LexBack.
-/
namespace Go.Proofs.YthnkmebnigefaaaDoor
open Go Go.Abs
set_option maxRecDepth 20000
attribute [local irreducible] vc
attribute [local simp] pureS touchV freezeL fuel shiftV

def decStr : List PVal → Option (List (List UInt8))
  | [] => some []
  | .str s :: r => match decStr r with | some l => some (s :: l) | none => none
  | _ :: _ => none
def decInt : List PVal → Option (List Int)
  | [] => some []
  | .int .i64 s :: r => match decInt r with | some l => some (s :: l) | none => none
  | _ :: _ => none
theorem decStr_map : ∀ l : List (List UInt8), decStr (l.map PVal.str) = some l
  | [] => rfl
  | s :: l => by simp [decStr, decStr_map l]
theorem decInt_map : ∀ l : List Int, decInt (l.map (PVal.int .i64)) = some l
  | [] => rfl
  | s :: l => by simp [decInt, decInt_map l]
theorem decStr_some : ∀ {l : List PVal} {ss : List (List UInt8)}, decStr l = some ss → l = ss.map PVal.str
  | [], ss, h => by simp [decStr] at h; subst h; rfl
  | x :: r, ss, h => by
    unfold decStr at h
    split at h
    · rename_i e; cases e
    · rename_i s r' e
      cases e
      cases hd : decStr r with
      | none => rw [hd] at h; cases h
      | some l =>
        rw [hd] at h
        cases h
        rw [decStr_some hd]
        rfl
    · cases h
theorem decInt_some : ∀ {l : List PVal} {ss : List Int}, decInt l = some ss → l = ss.map (PVal.int .i64)
  | [], ss, h => by simp [decInt] at h; subst h; rfl
  | x :: r, ss, h => by
    unfold decInt at h
    split at h
    · rename_i e; cases e
    · rename_i s r' e
      cases e
      cases hd : decInt r with
      | none => rw [hd] at h; cases h
      | some l =>
        rw [hd] at h
        cases h
        rw [decInt_some hd]
        rfl
    · cases h

def sBack : List PVal → Option PVal
  | [.lst es, .lst fs] => match decStr es, decInt fs with | some _, some _ => some (.bool true) | _, _ => none
  | _ => none

def Tp : Tab := Tl.with 16 (pureS sRound)
theorem Tp_ok : TabOk Tryd.prog base1 Tp := Tab.with_ok Tl_ok round_ok
theorem Tp_mu (f : FuncId) (a : List AVal) (H : Heap) : Tp.mu f a H = none := (rfl)
theorem Tp_8 : Tp.fn 8 = pureS sAwake := (rfl)
theorem Tp_9 : Tp.fn 9 = pureS sAll := (rfl)
theorem Tp_11 : Tp.fn 11 = pureS sQuote := (rfl)
theorem Tp_16 : Tp.fn 16 = pureS sRound := (rfl)

abbrev Item := List UInt8 × List UInt8
def fillE : Ent := ⟨1, 0, false, fills.map (AVal.p ∘ PVal.str), 9⟩
def wantE (ver : Nat) (items : List Item) : Ent := ⟨1, ver, false, items.map fun p => AVal.p (.str p.2), 9⟩
def WantIs (v : AVal) (H : Heap) (items : List Item) : Prop :=
  (items = [] ∧ v = .tight []) ∨ ∃ k ver, 0 < k ∧ k < H.length ∧ v = .own k 0 items.length ver ∧ H[k]? = some (wantE ver items)

theorem quote_len {s q : List UInt8} (h : quoteS s = some q) : q.length ≤ s.length + 2 := by
  unfold quoteS at h
  split at h
  · cases h; omega
  · split at h
    · cases h; simp
    · cases h

theorem fill_len {f : List UInt8} (h : f ∈ fills) : f.length ≤ 12 := by
  simp only [fills, List.mem_cons, List.not_mem_nil, or_false] at h
  rcases h with rfl | rfl | rfl | rfl | rfl | rfl <;> decide

theorem txt_snoc (items : List Item) (f s q : List UInt8) (h : quoteS s = some q) : txt (items ++ [(f, s)]) = txt items ++ f ++ q := by
  simp [txt, h]

theorem binS_app {a b : List UInt8} (h : a.length + b.length ≤ 1000000) : binS .add a b = some (.str (a ++ b)) := by
  have : a.length + b.length ≤ maxLen := Nat.le_trans h (by decide)
  simp [binS, this]

def BackI (ns : List (List UInt8)) (gs : List Int) (fr : AFr) (H : Heap) : Prop :=
  ∃ (i : Nat) (items : List Item), i ≤ ns.length ∧ Fine items ∧ items.length ≤ i ∧ (txt items).length ≤ 80 * i ∧ fr 0 = .p (.lst (ns.map PVal.str)) ∧ fr 1 = .p (.lst (gs.map (PVal.int .i64))) ∧
    fr 5 = .own 0 0 6 0 ∧ H[0]? = some fillE ∧ fr 6 = .p (.str (txt items)) ∧ WantIs (fr 7) H items ∧ fr 8 = .p (.int .i64 i)

theorem back_loop {ns : List (List UInt8)} {gs : List Int} {Q : LExit → AFr → Heap → Prop} {fr : AFr} {H : Heap} (hn : ns.length ≤ 12) (hg : ns.length ≤ gs.length) (hI : BackI ns gs fr H)
    (hr : ∀ fr' H', fr' 4 = .p (.bool true) → Q .ret fr' H')
    (hq : ∀ fr' H' items, Fine items → items.length ≤ 12 → (txt items).length ≤ 960 → fr' 6 = .p (.str (txt items)) → WantIs (fr' 7) H' items → Q .normal fr' H') : vc Tp lf4_B0 Q fr H := by
  simp only [lf4_B0, vc_block]
  refine loop_ind (BackI ns gs) (fun fr _ => ns.length - ivar (fr 8)) hI ?_
  rintro fr H ⟨i, items, hi, hF, hil, htl, h0, h1, h5, hH, h6, hw, h8⟩
  by_cases h : i < ns.length
  · obtain ⟨s, hs⟩ : ∃ u, ns[i]? = some u := ⟨_, List.getElem?_eq_getElem h⟩
    obtain ⟨g, hgi⟩ : ∃ u, gs[i]? = some u := ⟨_, List.getElem?_eq_getElem (show i < gs.length by omega)⟩
    have hns := getE hs
    have hngs := getE hgi
    have hig : i < gs.length := by omega
    by_cases hl : (60 : Int) < s.length
    · simp [h0, h1, h8, h, hns, hl, Tp_mu, Tp_8, sAwake_nil]
      exact hr _ _ (by simp)
    · have hls : s.length ≤ 100000 := by omega
      cases hq0 : quoteS s with
      | none =>
        have hc : sQuote [.str s] = some (.tup [.str [], .int .i64 2]) := by simp [sQuote, hls, hq0]
        simp [h0, h1, h8, h, hns, hl, hc, Tp_mu, Tp_11, wrap_succ (i := i) (by omega), ivar]
        exact ⟨⟨i + 1, items, by omega, hF, by omega, by omega, by simp [h0], by simp [h1], by simp [h5], hH, by simp [h6], by simpa using hw, by simp⟩, by omega⟩
      | some q =>
        have hc : sQuote [.str s] = some (.tup [.str q, .int .i64 0]) := by simp [sQuote, hls, hq0]
        have hrd : sRound [.int .i64 g, .int .i64 6] = some (.int .i64 (g % 6)) := by simp [sRound]
        obtain ⟨m, hm⟩ : ∃ m : Nat, g % 6 = m := ⟨(g % 6).toNat, by omega⟩
        have hm6 : m < 6 := by omega
        have hm6i : (m : Int) < 6 := by omega
        have hM1 : 1 ≤ maxLen := by decide
        have hM2 : items.length + 1 ≤ maxLen := Nat.le_trans (show items.length + 1 ≤ 100 by omega) (by decide)
        have hM3 : (items.length + 1) * 16 ≤ 140737488355328 := by omega
        rw [hm] at hrd
        obtain ⟨f, hf⟩ : ∃ f, fills[m]? = some f := ⟨_, List.getElem?_eq_getElem (show m < fills.length from hm6)⟩
        have hfm : f ∈ fills := List.mem_of_getElem? hf
        have hfe : (fills.map (AVal.p ∘ PVal.str))[m]? = some (.p (.str f)) := by rw [List.getElem?_map, hf]; rfl
        have hql := quote_len hq0
        have hfl := fill_len hfm
        have hb1 : binS .add (txt items) f = some (.str (txt items ++ f)) := binS_app (by omega)
        have hb2 : binS .add (txt items ++ f) q = some (.str (txt items ++ f ++ q)) := binS_app (by simp; omega)
        rw [List.append_assoc] at hb2
        have h0t : ∀ t : Ent, (H ++ [t])[0]? = some fillE := fun t => by rw [List.getElem?_append_left (List.getElem?_eq_some_iff.1 hH).1]; exact hH
        have hFs : Fine (items ++ [(f, s)]) := fun p hp => by
          rcases List.mem_append.1 hp with hp | hp
          · exact hF p hp
          · simp only [List.mem_singleton] at hp
            subst hp
            exact ⟨hfm, by simp [hq0]⟩
        have hts := txt_snoc items f s q hq0
        have htsl : (txt (items ++ [(f, s)])).length ≤ 80 * (i + 1) := by rw [hts]; simp; omega
        have hHl : 0 < H.length := (List.getElem?_eq_some_iff.1 hH).1
        rcases hw with ⟨rfl, h7⟩ | ⟨k, ver, hk0, hkl, h7, hkE⟩
        · simp [h0, h1, h5, h6, h7, h8, h, hns, hl, hc, hig, hngs, hrd, hH, fillE, hm6, hm6i, hM1, hfe, hb1, hb2, fillS, Tp_mu, Tp_11, Tp_16, wrap_succ (i := i) (by omega), ivar]
          refine ⟨⟨i + 1, [] ++ [(f, s)], by omega, hFs, by simp, htsl, by simp [h0], by simp [h1], by simp [h5], ?_, by rw [hts]; simp, Or.inr ⟨H.length + 1, 0, by omega, by simp, by simp, ?_⟩, by simp⟩, by omega⟩
          · rw [List.getElem?_append_left hHl]; exact hH
          · rw [List.getElem?_append_right (by omega), show H.length + 1 - H.length = 1 by omega]
            rfl
        · have hkt : ∀ t : Ent, (H ++ [t])[k]? = some (wantE ver items) := fun t => by rw [List.getElem?_append_left hkl]; exact hkE
          unfold wantE at hkt
          simp [hkt, hM2, hM3, h0, h1, h5, h6, h7, h8, h, hns, hl, hc, hig, hngs, hrd, hH, fillE, hm6, hm6i, hM1, hfe, hb1, hb2, fillS, Tp_mu, Tp_11, Tp_16, wrap_succ (i := i) (by omega), ivar]
          have hk0' : k ≠ 0 := by omega
          refine ⟨⟨i + 1, items ++ [(f, s)], by omega, hFs, by simp; omega, htsl, by simp [h0], by simp [h1], by simp [h5], ?_, by rw [hts]; simp, Or.inr ⟨k, ver + 1, hk0, by simp; omega, by simp, ?_⟩, by simp⟩, by omega⟩
          · rw [List.getElem?_set_ne (by omega)]; exact h0t _
          · rw [List.getElem?_set_self (by simp; omega)]
            simp [wantE]
  · have hil : i = ns.length := by omega
    subst hil
    simp [h0, h8]
    refine hq _ _ items hF (by omega) (by omega) ?_ ?_
    · simp [h6]
    · simpa using hw

theorem back_two {ws : List Wd} {items : List Item} {Q : LExit → AFr → Heap → Prop} {fr : AFr} {H : Heap} (hl : items.length ≤ 12) (hm : ws.map (fun w => (w.kind, w.text)) = items.map (fun p => ((3 : Int), p.2)))
    (h7 : WantIs (fr 7) H items) (h11 : fr 11 = .p (.lst (ws.map Wd.v))) (h13 : fr 13 = .p (.int .i64 0)) (hq : ∀ fr', Q .normal fr' H) : vc Tp lf4_B1 Q fr H := by
  have hwl : ws.length = items.length := by simpa using congrArg List.length hm
  simp only [lf4_B1, vc_block]
  refine loop_ind (fun fr' H' => ∃ j : Nat, H' = H ∧ j ≤ ws.length ∧ fr' 7 = fr 7 ∧ fr' 11 = .p (.lst (ws.map Wd.v)) ∧ fr' 13 = .p (.int .i64 j)) (fun fr _ => ws.length - ivar (fr 13)) ⟨0, rfl, by omega, rfl, h11, h13⟩ ?_
  rintro fr' H' ⟨j, rfl, hj, h7', h11, h13⟩
  by_cases h : j < ws.length
  · obtain ⟨w, hw⟩ : ∃ u, ws[j]? = some u := ⟨_, List.getElem?_eq_getElem h⟩
    obtain ⟨p, hp⟩ : ∃ u, items[j]? = some u := ⟨_, List.getElem?_eq_getElem (show j < items.length by omega)⟩
    have he : (w.kind, w.text) = ((3 : Int), p.2) := by
      have := congrArg (fun l => l[j]?) hm
      simpa [hw, hp] using this
    obtain ⟨kd, tx, a⟩ := w
    simp only [Prod.mk.injEq] at he
    obtain ⟨rfl, rfl⟩ := he
    have hnw := getE hw
    rcases h7 with ⟨rfl, _⟩ | ⟨k, ver, hk0, hkl, h7, hkE⟩
    · simp at hp
    · rw [h7] at h7'
      unfold wantE at hkE
      have hji : j < items.length := by omega
      have hjI : (j : Int) < items.length := by omega
      have hpe : (items.map fun p => AVal.p (.str p.2))[j]? = some (.p (.str p.2)) := by rw [List.getElem?_map, hp]; rfl
      have hnp := getE hp
      simp [h7', h11, h13, h, hnw, hkE, hji, hjI, hnp, Wd.v, wordV, binS, ivar, wrap_succ (i := j) (by omega)]
      exact ⟨⟨j + 1, by omega, h7.symm, rfl⟩, by omega⟩
  · have hjl : j = ws.length := by omega
    subst hjl
    simp [h11, h13]
    exact hq _

theorem back_ok : FnOk Tryd.prog base1 4 (pureS sBack) := by
  refine pure_of_vc hmix Tp_ok globNone low4 fun args z hs hf => ?_
  unfold sBack at hs
  split at hs
  case h_2 => cases hs
  rename_i es fs
  split at hs
  case h_2 => cases hs
  rename_i ns gs ha hb
  cases hs
  have := decStr_some ha
  subst this
  have := decInt_some hb
  subst this
  refine ⟨by simp [lf4], ?_⟩
  by_cases hn : (12 : Int) < ns.length
  · simp [lf4, hn, Tp_mu, Tp_8, sAwake_nil]
  by_cases hg : gs.length < ns.length
  · simp [lf4, hn, hg, Tp_mu, Tp_8, sAwake_nil]
  by_cases hg2 : (40 : Int) < gs.length
  · simp [lf4, hn, hg, hg2, Tp_mu, Tp_8, sAwake_nil]
  have hall : ∀ t : List UInt8, sAll [.lst (t.map b8)] = some (.tup [.lst ((allS t).1.map Wd.v), .int .i64 (allS t).2]) := fun t => by simp only [sAll, decB_map]
  simp [lf4, hn, hg, hg2, fillS]
  refine back_loop (ns := ns) (gs := gs) (by omega) (by omega) ⟨0, [], by omega, by simp [Fine], by simp, by simp [txt], by simp, by simp, by simp, rfl, by simp [txt], Or.inl ⟨rfl, by simp⟩, by simp⟩ ?_ ?_
  · intro fr H h4
    simp [h4]
  · intro fr H items hF hil htl h6 h7
    obtain ⟨ws, hws, hmap⟩ := lex_back (txt items ++ [32]).length hF
    have h3 := hall (txt items ++ [32])
    rw [all_some (by simp; omega) hws, List.map_append] at h3
    have hwl : ws.length = items.length := by simpa using congrArg List.length hmap
    have hb1 : binS .add (txt items) [32] = some (.str (txt items ++ [32])) := binS_app (by simp; omega)
    replace h3 : sAll [.lst (List.map (fun b : UInt8 => PVal.int .u8 b.toNat) (txt items) ++ [.int .u8 32])] = some (.tup [.lst (ws.map Wd.v), .int .i64 0]) := h3
    have h7c := h7
    rcases h7 with ⟨rfl, h7⟩ | ⟨k, ver, hk0, hkl, h7, hkE⟩
    · simp [h6, h7, hb1, h3, hwl, Tp_mu, Tp_9]
      refine back_two (ws := ws) (items := []) (by simp) hmap ?_ ?_ ?_ (fun fr' => ?_)
      · simp [h7]; rw [← h7]; exact h7c
      · simp
      · simp
      · simp [Tp_mu, Tp_8, sAwake_nil]
    · unfold wantE at hkE
      simp [h6, h7, hb1, h3, hwl, hkE, Tp_mu, Tp_9]
      refine back_two (ws := ws) (items := items) hil hmap ?_ ?_ ?_ (fun fr' => ?_)
      · simp [h7]; rw [← h7]; exact h7c
      · simp
      · simp
      · simp [Tp_mu, Tp_8, sAwake_nil]
end Go.Proofs.YthnkmebnigefaaaDoor

/-
  Arguments that are slices of strings or of numbers, as values without memory.
-/
namespace Go.Proofs.YthnkmebnigefaaaDoor
open Go Go.Abs Go.ChangeShapes Go.WideShapes Go.ChangeAt Go.WideMaps Go.WideElems Go.RowKit

section
variable {H : Type} {enc : TypeId × Value → H} {P : Program} {W : World} {sp : Nat → Bool}

theorem addr_at {W : World} {a : Addr} {len : Nat} {g : Nat → Value} (hcell : ∀ i, i < len → W.cell? (a.add i) = some (g i)) (i : Nat) (hi : i < len) : W.cell? ⟨a.block, a.off + i * 1 + 0, none⟩ = some (g i) := by
  rw [← hcell i hi]
  unfold Addr.add
  by_cases h0 : i = 0
  · subst h0
    have hs := World.cell?_spot (hcell 0 (by omega))
    rw [show a.add 0 = a from rfl] at hs
    simp [← hs]
  · simp [h0]

theorem addr_head {W : World} {a : Addr} {len : Nat} {g : Nat → Value} (hcell : ∀ i, i < len → W.cell? (a.add i) = some (g i)) (h : 0 < len) : some a = some ⟨a.block, a.off, none⟩ := by
  have := World.cell?_spot (hcell 0 (by omega))
  rw [show a.add 0 = a from rfl] at this
  cases a
  simp at this
  subst this
  rfl

theorem prep_strings {t e : TypeId} {v : Value} {d : DataW H} {ps : List MemPlace} {r : Reach} {b0 : Nat} (ht : P.underlying t = some (.slice e)) (he : P.underlying e = some .string) (hc : P.cellsOf e = 1)
    (hv : Value.okWide P W r b0 t v) (h : DataW.Trod enc P W 0 sp true t v d ps) : ∃ bs : List (List UInt8), PRep (allCells W) (.lst (bs.map PVal.str)) v := by
  obtain ⟨a0, len, cap, rfl⟩ := okWide_slice ht hv
  obtain ⟨fuel, hf⟩ := h
  rcases open_strings ht he hc hf with ⟨h1, _⟩ | ⟨a, len', cap', zs, h1, _, hlc, hcm, hzl, _, hcell, hwf⟩
  · simp only [Value.cells, List.cons.injEq, Value.slice.injEq, and_true] at h1
    obtain ⟨rfl, rfl, rfl⟩ := h1
    exact ⟨[], .lst [] none 0 0 1 0 0 (fun _ _ => undef) rfl (Nat.le_refl _) (Nat.zero_le _) (by simp) (by simp) (by simp) (by simp) (by simp)⟩
  · simp only [Value.cells, List.cons.injEq, Value.slice.injEq, and_true] at h1
    obtain ⟨rfl, rfl, rfl⟩ := h1
    have hlz : len ≤ zs.length := by rw [hzl]; split <;> omega
    refine ⟨(zs.take len).map fun z => z.data.toList, .lst _ (some a) len cap 1 a.block a.off (fun i _ => .string (zs.getD i ByteArray.empty)) (by simp; omega) hlc hcm (fun hne => ?_) (fun e he => ?_) (fun i j hi hj => ?_) (fun i e j x hi hx => ?_) (fun e he x hx => ?_)⟩
    · have hlen : 0 < zs.length := by
        rcases Nat.eq_zero_or_pos len with h0 | h0
        · subst h0; simp at hne
        · omega
      exact addr_head hcell hlen
    · simp only [List.mem_map] at he
      obtain ⟨b, _, rfl⟩ := he
      rfl
    · have hi' : i < zs.length := by simp at hi; omega
      have hj0 : j = 0 := by omega
      subst hj0
      exact addr_at hcell i hi'
    · have hi' : i < len := by
        have := (List.getElem?_eq_some_iff.1 hi).1
        simp at this; omega
      have hz : zs[i]? = some zs[i] := List.getElem?_eq_getElem (by omega)
      simp only [List.getElem?_map, List.getElem?_take, hi', if_true, hz, Option.map_some, Option.some.injEq] at hi
      subst hi
      have hw := hwf _ (List.getElem_mem (show i < zs.length by omega))
      cases j with
      | succ j => simp [PVal.cells] at hx
      | zero =>
        simp only [PVal.cells, List.getElem?_cons_zero, Option.some.injEq] at hx
        subst hx
        have e1 : zs.getD i ByteArray.empty = zs[i] := by simp [List.getD, hz]
        simp only [e1]
        have e : (Value.string zs[i]) = .string ⟨zs[i].data.toList.toArray⟩ := by cases zs[i]; simp
        rw [e]
        exact .str _ (by rw [Array.length_toList]; exact hw)
    · simp only [List.mem_map] at he
      obtain ⟨b, _, rfl⟩ := he
      simp [PVal.cells] at hx
      subst hx
      rfl

theorem prep_ints {t e : TypeId} {k : IntKind} {v : Value} {d : DataW H} {ps : List MemPlace} {r : Reach} {b0 : Nat} (ht : P.underlying t = some (.slice e)) (he : P.underlying e = some (.int k)) (hc : P.cellsOf e = 1)
    (hv : Value.okWide P W r b0 t v) (h : DataW.Trod enc P W 0 sp true t v d ps) : ∃ bs : List Int, PRep (allCells W) (.lst (bs.map (PVal.int k))) v := by
  obtain ⟨a0, len, cap, rfl⟩ := okWide_slice ht hv
  obtain ⟨fuel, hf⟩ := h
  rcases open_ints ht he hc hf with ⟨h1, _⟩ | ⟨a, len', cap', zs, h1, _, hlc, hcm, hzl, _, hcell, hwf⟩
  · simp only [Value.cells, List.cons.injEq, Value.slice.injEq, and_true] at h1
    obtain ⟨rfl, rfl, rfl⟩ := h1
    exact ⟨[], .lst [] none 0 0 1 0 0 (fun _ _ => undef) rfl (Nat.le_refl _) (Nat.zero_le _) (by simp) (by simp) (by simp) (by simp) (by simp)⟩
  · simp only [Value.cells, List.cons.injEq, Value.slice.injEq, and_true] at h1
    obtain ⟨rfl, rfl, rfl⟩ := h1
    have hlz : len ≤ zs.length := by rw [hzl]; split <;> omega
    refine ⟨zs.take len, .lst _ (some a) len cap 1 a.block a.off (fun i _ => .int k (zs.getD i 0)) (by simp; omega) hlc hcm (fun hne => ?_) (fun e he => ?_) (fun i j hi hj => ?_) (fun i e j x hi hx => ?_) (fun e he x hx => ?_)⟩
    · have hlen : 0 < zs.length := by
        rcases Nat.eq_zero_or_pos len with h0 | h0
        · subst h0; simp at hne
        · omega
      exact addr_head hcell hlen
    · simp only [List.mem_map] at he
      obtain ⟨b, _, rfl⟩ := he
      rfl
    · have hi' : i < zs.length := by simp at hi; omega
      have hj0 : j = 0 := by omega
      subst hj0
      exact addr_at hcell i hi'
    · have hi' : i < len := by
        have := (List.getElem?_eq_some_iff.1 hi).1
        simp at this; omega
      have hz : zs[i]? = some zs[i] := List.getElem?_eq_getElem (by omega)
      simp only [List.getElem?_map, List.getElem?_take, hi', if_true, hz, Option.map_some, Option.some.injEq] at hi
      subst hi
      cases j with
      | succ j => simp [PVal.cells] at hx
      | zero =>
        simp only [PVal.cells, List.getElem?_cons_zero, Option.some.injEq] at hx
        subst hx
        have e1 : zs.getD i 0 = zs[i] := by simp [List.getD, hz]
        simp only [e1]
        exact .int _ _
    · simp only [List.mem_map] at he
      obtain ⟨b, _, rfl⟩ := he
      simp [PVal.cells] at hx
      subst hx
      rfl
end
theorem cells9 : Tryd.prog.cellsOf 9 = 1 := by kernel_rfl
theorem cells3 : Tryd.prog.cellsOf 3 = 1 := by kernel_rfl
end Go.Proofs.YthnkmebnigefaaaDoor

/-
  lex: LexBack's row and card.
-/
namespace Go.Proofs.YthnkmebnigefaaaDoor
open Go Go.Abs Go.ChangeShapes Go.WideShapes Go.ChangeAt Go.WideMaps Go.WideElems Go.RowKit

set_option maxRecDepth 100000 in
theorem back_lifted (os : Os) (started : os.Started) (H : Type) (enc : TypeId × Value → H) :
    ReturnsInHanded {} Tryd.checked os 4 .any (fun w args => (Rows.lexBackSpec.pre enc Tryd.prog Tryd.f4 [] false w args ∧ laidMetH Tryd.prog rowLaid w) ∧ sizedMet enc Tryd.prog Tryd.f4 (OpenSpec.ofChange Rows.lexBackSpec) false w args)
      (Rows.lexBackSpec.post enc Tryd.prog Tryd.f4 false true false false) := by
  refine returnsInHanded_of_change_and (C := Tryd.checked) (X := fun w _ => laidMetH Tryd.prog rowLaid w) (fun _ _ _ hh h => h.of_heap hh) own started (by kernel_rfl) Tryd.func4
    (ChangeSpec.witness_shaped (enc := enc) (C := Tryd.checked) (os := os) (X := fun w _ => laidMetH Tryd.prog rowLaid w) false (World.doorLaid Tryd.prog 400 os) #[.slice none 0 0, .slice none 0 0] 8 rfl (World.shaped_of_RefB (by kernel_rfl) (by kernel_rfl)) (by kernel_rfl) (by kernel_rfl) (by kernel_rfl) (door_met os _)) ?_
  intro W base args ds gs before hval0 hW _ _ hL _
  have hval : ∀ (j : Nat) t v, Tryd.f4.params[j]? = some t → args[j]? = some v → Value.okWide Tryd.prog W .any base t v := hval0
  have hW' := hW
  obtain ⟨p, q, hA0, hV, rfl, hfz, hnd⟩ := hW
  have hA : DataW.TrodAll enc Tryd.prog W 0 (fun _ => true) true Tryd.f4.params.toList args.toList ds p := hA0
  rw [Tryd.params4] at hA hval
  obtain ⟨v0, vs0, d0, ds0, p0, q0, hargs, rfl, rfl, h0, r0⟩ := trodAll_cons hA
  obtain ⟨v1, vs1, d1, ds1, p1, q1, rfl, rfl, rfl, h1, r1⟩ := trodAll_cons r0
  obtain ⟨rfl, rfl, rfl⟩ := trodAll_nil r1
  obtain rfl : args = #[v0, v1] := by cases args; simp_all
  obtain ⟨rfl, rfl⟩ := trodVars_none hV
  obtain ⟨x0, hp0⟩ := prep_strings Tryd.underlying37 Tryd.underlying9 cells9 (hval 0 37 v0 rfl rfl) h0
  obtain ⟨x1, hp1⟩ := prep_ints Tryd.underlying38 Tryd.underlying3 cells3 (hval 1 38 v1 rfl rfl) h1
  have hcall := law_of_fn back_ok (of_laid hL) (ps := [.lst (x0.map PVal.str), .lst (x1.map (PVal.int .i64))]) (vs := [v0, v1]) rfl (fun j x v hx hv => by
    match j, hx, hv with
    | 0, hx, hv => cases hx; cases hv; exact hp0
    | 1, hx, hv => cases hx; cases hv; exact hp1) (by simp only [sBack, decStr_map, decInt_map])
  clear hA0 hval0
  simp only [List.append_nil] at hW'
  refine hcall.mono fun e W' ⟨he, hbl⟩ => ?_
  subst he
  have hlt : ∀ x ∈ p0 ++ p1, x.block < W.heap.size := fun x hx => by simpa using hW'.lt x hx
  refine ⟨_, rfl, post_below (pa := p0 ++ p1) (pv := []) hW' (fun _ _ _ => ?_) (fun sp hsp => ?_) (fun _ _ => rfl) (by simp) hbl (ok_one (by kernel_rfl) rfl (okWide_bool_mk Tryd.underlying4 _))⟩
  · exact trodAll_mk1 (shut_bool Tryd.underlying4 _)
  · have k0 : DataW.Trod enc Tryd.prog W' 0 sp true 37 v0 d0 p0 := WideElems.Trod_stays laidOut (by kernel_rfl) (of_decide_eq_true (by kernel_rfl)) h0 (fun x hx => hbl.same (hlt x (List.mem_append_left _ hx))) (fun x hx => hsp x (by simp [hx]))
    have k1 : DataW.Trod enc Tryd.prog W' 0 sp true 38 v1 d1 p1 := WideElems.Trod_stays laidOut (by kernel_rfl) (of_decide_eq_true (by kernel_rfl)) h1 (fun x hx => hbl.same (hlt x (List.mem_append_right _ hx))) (fun x hx => hsp x (by simp [hx]))
    exact trodAll_mk2 k0 k1

theorem back_holds : Rows.LexBackSaid :=
  OpenClaim.holds_of_wide 4 Tryd.f4 rfl rfl rfl rfl rfl rfl rfl ⟨rfl, rfl, rfl, rfl, rfl⟩ rfl rfl rfl rfl rfl (by kernel_rfl) Tryd.func4 (by kernel_rfl)
    (of_decide_eq_true (by kernel_rfl)) (by unfold Func.isWrapper; first | (rw [if_pos (by decide +kernel)]; kernel_rfl) | (rw [if_neg (by decide +kernel)]; exact ⟨rfl, rfl⟩))
    (fun os started H enc _ => back_lifted os started H enc)

theorem back_plain (f : FuncId) (fn : Func) (hf : Tryd.pinned.checked.prog.funcNamed Rows.lexBackRow.func = some f) (hfn : Tryd.pinned.checked.prog.funcs[f]? = some fn) :
    false = Tryd.pinned.checked.prog.looks [] ∧ ∀ (j : Nat) t, fn.params[j]? = some t → Tryd.pinned.checked.prog.wantsStandIn t = false := by
  obtain rfl : f = 4 := Option.some.inj ((show Tryd.prog.funcNamed Rows.lexBackRow.func = some 4 by kernel_rfl).symm.trans hf) |>.symm
  obtain rfl : fn = Tryd.f4 := (Option.some.inj (Tryd.func4.symm.trans hfn)).symm
  refine ⟨by kernel_rfl, fun j t ht => ?_⟩
  rw [Tryd.params4] at ht
  have hm : t ∈ [37, 38] := by simpa using Array.mem_of_getElem? ht
  have hall : ([37, 38].all fun u => !Tryd.prog.wantsStandIn u) = true := by kernel_rfl
  exact (show Tryd.prog.wantsStandIn t = false by simpa using List.all_eq_true.1 hall t hm)

/-- LexBack answers true for every input: the tied card. -/
theorem lexBack_card : Rows.LexBackCardSaid :=
  Claim7.holds_tied_plain_at .later [] _ _ _ _ back_holds (fun _ h => by cases h) (by kernel_rfl) (fun _ h => by cases h) lexBack_row_tie rfl ⟨rfl, rfl⟩ (by kernel_rfl) rfl back_plain (by kernel_rfl)
#print axioms lexBack_card
end Go.Proofs.YthnkmebnigefaaaDoor
