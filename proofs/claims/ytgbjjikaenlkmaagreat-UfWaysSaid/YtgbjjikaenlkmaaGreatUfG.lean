/-
  Ways of edges, distances, the least that is not forbidden: the plain law. No conditions beyond the lemmas' own hypotheses.
-/
import Derived.Test.YtgbjjikaenlkmaaGreatUfF
set_option linter.unusedSimpArgs false
set_option linter.unnecessarySimpa false
set_option linter.unusedVariables false
set_option linter.constructorNameAsVariable false

/-
 uf: ways of edges, plainly.
-/
namespace Go.Proofs.YtgbjjikaenlkmaaGreat
open Go Go.Abs Go.Limbs
set_option maxRecDepth 20000
theorem pigeon {α : Type} [BEq α] [LawfulBEq α] : ∀ (l m : List α), l.Nodup → (∀ x ∈ l, x ∈ m) → l.length ≤ m.length
 | [], m, _, _ => Nat.zero_le _
 | x :: l, m, hn, hs => by
  have h1 := List.nodup_cons.1 hn
  have hx : x ∈ m := hs x (by simp)
  have h2 := pigeon l (m.erase x) h1.2 (fun y hy => by
   have hne : y ≠ x := fun e => h1.1 (e ▸ hy)
   exact (List.mem_erase_of_ne hne).2 (hs y (by simp [hy])))
  have h3 := List.length_erase_of_mem hx
  have h4 := List.length_pos_of_mem hx
  simp only [List.length_cons]
  omega
abbrev Edges := List (Int × Int)
inductive Wk (E : Edges) (s : Int) : Int → Nat → Prop
 | nil : Wk E s s 0
 | snoc {v u : Int} {n : Nat} : Wk E s v n → (v, u) ∈ E → Wk E s u (n + 1)
theorem Wk.zero {E : Edges} {s v : Int} (h : Wk E s v 0) : v = s := by cases h; rfl
theorem Wk.last {E : Edges} {s v : Int} {n : Nat} (h : Wk E s v (n + 1)) : ∃ u, Wk E s u n ∧ (u, v) ∈ E := by
 cases h with
 | snoc h1 h2 => exact ⟨_, h1, h2⟩
theorem Wk.cons {E : Edges} {t s v : Int} {n : Nat} (he : (t, s) ∈ E) (h : Wk E s v n) : Wk E t v (n + 1) := by
 induction h with
 | nil => exact .snoc .nil he
 | snoc _ h2 ih => exact .snoc ih h2
def Sym (E : Edges) : Prop := ∀ a b, (a, b) ∈ E → (b, a) ∈ E
theorem Wk.rev {E : Edges} (hE : Sym E) {s v : Int} {n : Nat} (h : Wk E s v n) : Wk E v s n := by
 induction h with
 | nil => exact .nil
 | snoc _ h2 ih => exact Wk.cons (hE _ _ h2) ih
def Sev (n : Int) : Prop := 0 ≤ n ∧ n < 7
def Small (E : Edges) : Prop := ∀ e ∈ E, Sev e.1 ∧ Sev e.2
theorem Wk.sev {E : Edges} {s v : Int} {n : Nat} (hE : Small E) (hs : Sev s) (h : Wk E s v n) : Sev v := by
 cases h with
 | nil => exact hs
 | snoc _ h2 => exact (hE _ h2).2
def MinW (E : Edges) (s v : Int) (n : Nat) : Prop := Wk E s v n ∧ ∀ j, j < n → ¬ Wk E s v j
theorem minW_of {E : Edges} {s v : Int} : ∀ {n : Nat}, Wk E s v n → ∃ m, m ≤ n ∧ MinW E s v m := by
 intro n
 induction n using Nat.strongRecOn with
 | _ n ih =>
  intro h
  by_cases hm : ∃ j, j < n ∧ Wk E s v j
  ·obtain ⟨j, hj, hw⟩ := hm
   obtain ⟨m, h1, h2⟩ := ih j hj hw
   exact ⟨m, by omega, h2⟩
  ·exact ⟨n, Nat.le_refl _, h, fun j hj hw => hm ⟨j, hj, hw⟩⟩
theorem MinW.last {E : Edges} {s v : Int} {n : Nat} (h : MinW E s v (n + 1)) : ∃ u, MinW E s u n ∧ (u, v) ∈ E := by
 obtain ⟨u, h1, h2⟩ := h.1.last
 exact ⟨u, ⟨h1, fun j hj hw => h.2 (j + 1) (by omega) (.snoc hw h2)⟩, h2⟩
theorem MinW.uniq {E : Edges} {s v : Int} {n m : Nat} (h : MinW E s v n) (k : MinW E s v m) : n = m := by
 rcases Nat.lt_trichotomy n m with h1 | h1 | h1
 ·exact absurd h.1 (k.2 n h1)
 ·exact h1
 ·exact absurd k.1 (h.2 m h1)
theorem MinW.nodes {E : Edges} {s : Int} (hE : Small E) (hs : Sev s) : ∀ {n : Nat} {v : Int}, MinW E s v n → ∃ l : List Int, l.length = n + 1 ∧ l.Nodup ∧ ∀ x ∈ l, Sev x ∧ ∃ k, k ≤ n ∧ MinW E s x k
 | 0, v, h => ⟨[v], rfl, by simp, fun x hx => by
   rw [List.mem_singleton] at hx; subst hx
   exact ⟨h.1.sev hE hs, 0, Nat.le_refl _, h⟩⟩
 | n + 1, v, h => by
  obtain ⟨u, h1, -⟩ := h.last
  obtain ⟨l, hl, hn, ha⟩ := MinW.nodes hE hs h1
  refine ⟨v :: l, by simp [hl], List.nodup_cons.2 ⟨fun hv => ?_, hn⟩, fun x hx => ?_⟩
  ·obtain ⟨-, k, hk, hm⟩ := ha v hv
   have := h.uniq hm
   omega
  ·rcases List.mem_cons.1 hx with rfl | hx
   ·exact ⟨h.1.sev hE hs, n + 1, Nat.le_refl _, h⟩
   ·obtain ⟨h2, k, hk, hm⟩ := ha x hx
    exact ⟨h2, k, by omega, hm⟩
theorem minW_short {E : Edges} {s v : Int} {n : Nat} (hE : Small E) (hs : Sev s) (h : MinW E s v n) : n ≤ 6 := by
 obtain ⟨l, hl, hn, ha⟩ := h.nodes hE hs
 have := pigeon l [0, 1, 2, 3, 4, 5, 6] hn (fun x hx => by
  obtain ⟨⟨h1, h2⟩, -⟩ := ha x hx
  have h3 : x = 0 ∨ x = 1 ∨ x = 2 ∨ x = 3 ∨ x = 4 ∨ x = 5 ∨ x = 6 := by omega
  simpa using h3)
 simp at this
 omega
theorem Wk.short {E : Edges} {s v : Int} {n : Nat} (hE : Small E) (hs : Sev s) (h : Wk E s v n) : ∃ m, m ≤ n ∧ m ≤ 6 ∧ Wk E s v m := by
 obtain ⟨m, h1, h2⟩ := minW_of h
 exact ⟨m, h1, minW_short hE hs h2, h2.1⟩
theorem fget_put {es : List AVal} (h : IntMap es) (n m d : Int) : fget (mput m (.int .i64 d) es) n = if m = n then some d else fget es n := by
 have h1 := mfind_mput n m (.int .i64 d) es (fun x hx => by obtain ⟨k, z, e⟩ := h x hx; exact ⟨k, _, e⟩)
 unfold fget
 rw [h1]
 by_cases h : m = n
 ·rw [if_pos h, if_pos h]
 ·rw [if_neg h, if_neg h]
def BdM (E : Edges) (s : Int) (K : Nat) (es : List AVal) : Prop := ∀ v d, fget es v = some d → ∃ n : Nat, d = n ∧ n ≤ K ∧ Wk E s v n
def ClM (E : Edges) (s : Int) (k : Nat) (es : List AVal) : Prop := ∀ v n, n ≤ k → Wk E s v n → ∃ d, fget es v = some d ∧ d ≤ n
def LeM (es' es : List AVal) : Prop := ∀ v d, fget es v = some d → ∃ d', fget es' v = some d' ∧ d' ≤ d
theorem w1_small {d : Int} (h0 : 0 ≤ d) (h : d ≤ 1000000000000) : w1 d = d + 1 := IntWalk.i64_in _ (by omega)
theorem wm_small {d : Int} (h0 : 0 ≤ d) (h : d ≤ 1000000000000) : wm d = d - 1 := IntWalk.i64_in _ (by omega)
theorem rel1_ok {E : Edges} {s : Int} {K : Nat} {es : List AVal} {c : Bool} {e : Int × Int} (hI : IntMap es) (hB : BdM E s K es) (hK : K ≤ 1000000000000) (he : e ∈ E) :
  IntMap (rel1 (es, c) e).1 ∧ BdM E s (K + 1) (rel1 (es, c) e).1 ∧ LeM (rel1 (es, c) e).1 es ∧
  (∀ d, fget es e.1 = some d → ∃ m, fget (rel1 (es, c) e).1 e.2 = some m ∧ m ≤ d + 1) ∧ ((rel1 (es, c) e).2 = false → (rel1 (es, c) e).1 = es ∧ c = false) := by
 have hB' : BdM E s (K + 1) es := fun v d h => by obtain ⟨n, h1, h2, h3⟩ := hB v d h; exact ⟨n, h1, by omega, h3⟩
 have hL : LeM es es := fun v d h => ⟨d, h, Int.le_refl _⟩
 cases h1 : fget es e.1 with
 | none =>
  have e1 : rel1 (es, c) e = (es, c) := by simp only [rel1, h1]
  rw [e1]
  exact ⟨hI, hB', hL, fun d h => by simp at h, fun h => ⟨rfl, h⟩⟩
 | some d =>
  obtain ⟨n, rfl, hn, hw⟩ := hB _ _ h1
  have hw1 : w1 (n : Int) = n + 1 := w1_small (by omega) (by omega)
  have hwk : Wk E s e.2 (n + 1) := .snoc hw (by simpa using he)
  have hput : ∀ es', es' = mput e.2 (.int .i64 (w1 n)) es → (∀ w, fget es e.2 = some w → (n : Int) + 1 ≤ w) → IntMap es' ∧ BdM E s (K + 1) es' ∧ LeM es' es ∧ (∀ d, some (n : Int) = some d → ∃ m, fget es' e.2 = some m ∧ m ≤ d + 1) := fun es' he' hle => by
   subst he'
   refine ⟨hI.put _ _, fun v d h => ?_, fun v d h => ?_, fun d h => ?_⟩
   ·rw [fget_put hI] at h
    split at h
    ·rename_i hv
     subst hv
     cases h
     exact ⟨n + 1, by rw [hw1]; omega, by omega, hwk⟩
    ·exact hB' v d h
   ·rw [fget_put hI]
    split
    ·rename_i hv
     subst hv
     exact ⟨_, rfl, by rw [hw1]; exact hle d h⟩
    ·exact ⟨d, h, Int.le_refl _⟩
   ·cases h
    rw [fget_put hI, if_pos rfl]
    exact ⟨_, rfl, by rw [hw1]; omega⟩
  cases h2 : fget es e.2 with
  | none =>
   have e1 : rel1 (es, c) e = (mput e.2 (.int .i64 (w1 n)) es, true) := by simp only [rel1, h1, h2]
   rw [e1]
   obtain ⟨a, b, c', d'⟩ := hput _ rfl (fun w h => by rw [h2] at h; cases h)
   exact ⟨a, b, c', d', fun h => by cases h⟩
  | some w =>
   by_cases hgt : w > w1 n
   ·have e1 : rel1 (es, c) e = (mput e.2 (.int .i64 (w1 n)) es, true) := by simp only [rel1, h1, h2, if_pos hgt]
    rw [e1]
    obtain ⟨a, b, c', d'⟩ := hput _ rfl (fun w' h => by rw [h2] at h; cases h; omega)
    exact ⟨a, b, c', d', fun h => by cases h⟩
   ·have e1 : rel1 (es, c) e = (es, c) := by simp only [rel1, h1, h2, if_neg hgt]
    rw [e1]
    refine ⟨hI, hB', hL, fun d h => ?_, fun h => ⟨rfl, h⟩⟩
    cases h
    exact ⟨w, h2, by omega⟩
theorem LeM.trans {a b c : List AVal} (h : LeM a b) (k : LeM b c) : LeM a c := fun v d hd => by
 obtain ⟨d1, h1, h2⟩ := k v d hd
 obtain ⟨d2, h3, h4⟩ := h v d1 h1
 exact ⟨d2, h3, by omega⟩
theorem fold_ok {E : Edges} {s : Int} : ∀ (L : Edges) {K : Nat} {es : List AVal} {c : Bool}, IntMap es → BdM E s K es → K + L.length ≤ 1000000000000 → (∀ e ∈ L, e ∈ E) →
  IntMap (L.foldl rel1 (es, c)).1 ∧ BdM E s (K + L.length) (L.foldl rel1 (es, c)).1 ∧ LeM (L.foldl rel1 (es, c)).1 es ∧
  (∀ e ∈ L, ∀ d, fget es e.1 = some d → ∃ m, fget (L.foldl rel1 (es, c)).1 e.2 = some m ∧ m ≤ d + 1) ∧ ((L.foldl rel1 (es, c)).2 = false → (L.foldl rel1 (es, c)).1 = es ∧ c = false)
 | [], K, es, c, hI, hB, _, _ => ⟨hI, hB, fun v d h => ⟨d, h, Int.le_refl _⟩, fun e h => by simp at h, fun h => ⟨rfl, h⟩⟩
 | e :: L, K, es, c, hI, hB, hK, hL => by
  simp only [List.length_cons] at hK
  obtain ⟨a1, a2, a3, a4, a5⟩ := rel1_ok (c := c) hI hB (by omega) (hL e (by simp))
  have e1 : rel1 (es, c) e = ((rel1 (es, c) e).1, (rel1 (es, c) e).2) := rfl
  obtain ⟨b1, b2, b3, b4, b5⟩ := fold_ok L (c := (rel1 (es, c) e).2) a1 a2 (by omega) (fun x hx => hL x (by simp [hx]))
  rw [List.foldl_cons, e1]
  refine ⟨b1, ?_, b3.trans a3, fun x hx d hd => ?_, fun h => ?_⟩
  ·have : K + 1 + L.length = K + (e :: L).length := by simp only [List.length_cons]; omega
   rw [← this]
   exact b2
  ·rcases List.mem_cons.1 hx with rfl | hx
   ·obtain ⟨m, h1, h2⟩ := a4 d hd
    obtain ⟨m', h3, h4⟩ := b3 _ _ h1
    exact ⟨m', h3, by omega⟩
   ·obtain ⟨d1, h1, h2⟩ := a3 _ _ hd
    obtain ⟨m, h3, h4⟩ := b4 x hx d1 h1
    exact ⟨m, h3, by omega⟩
  ·obtain ⟨h1, h2⟩ := b5 h
   obtain ⟨h3, h4⟩ := a5 h2
   exact ⟨h1.trans h3, h4⟩
def edgesOf (ps : Edges) : Edges := ps.flatMap dirs
theorem passP_fold : ∀ (ps : Edges) (st : St), passP ps st = (edgesOf ps).foldl rel1 st
 | [], st => rfl
 | p :: r, st => by
  have := passP_fold r (relP st p)
  simp only [passP, edgesOf, List.foldl_cons, List.flatMap_cons, List.foldl_append, relP] at this ⊢
  exact this
theorem mem_edges {ps : Edges} {a b : Int} : (a, b) ∈ edgesOf ps ↔ (a, b) ∈ ps ∨ (b, a) ∈ ps := by
 unfold edgesOf dirs
 rw [List.mem_flatMap]
 constructor
 ·rintro ⟨⟨x, y⟩, hp, h⟩
  simp only [List.mem_cons, Prod.mk.injEq, List.not_mem_nil, or_false] at h
  rcases h with ⟨rfl, rfl⟩ | ⟨rfl, rfl⟩
  ·exact .inl hp
  ·exact .inr hp
 ·rintro (h | h)
  ·exact ⟨_, h, by simp⟩
  ·exact ⟨_, h, by simp⟩
theorem edges_sym (ps : Edges) : Sym (edgesOf ps) := fun a b h => mem_edges.2 (mem_edges.1 h).symm
theorem edges_len (ps : Edges) : (edgesOf ps).length = 2 * ps.length := by
 induction ps with
 | nil => rfl
 | cons p r ih =>
  have e : edgesOf (p :: r) = dirs p ++ edgesOf r := rfl
  rw [e, List.length_append, ih]
  simp [dirs]
  omega
theorem edges_small {ps : Edges} (h : Small ps) : Small (edgesOf ps) := by
 rintro ⟨a, b⟩ he
 rcases mem_edges.1 he with h1 | h1
 ·exact h _ h1
 ·exact ⟨(h _ h1).2, (h _ h1).1⟩
theorem ClM.pass {E : Edges} {s : Int} {k : Nat} {es es' : List AVal} (h : ClM E s k es) (hl : LeM es' es) (hp : ∀ e ∈ E, ∀ d, fget es e.1 = some d → ∃ m, fget es' e.2 = some m ∧ m ≤ d + 1) : ClM E s (k + 1) es' := fun v n hn hw => by
 cases n with
 | zero =>
  obtain ⟨d, h1, h2⟩ := h v 0 (by omega) hw
  obtain ⟨d', h3, h4⟩ := hl v d h1
  exact ⟨d', h3, by omega⟩
 | succ n =>
  obtain ⟨u, h1, h2⟩ := hw.last
  obtain ⟨d, h3, h4⟩ := h u n (by omega) h1
  obtain ⟨m, h5, h6⟩ := hp _ h2 d h3
  exact ⟨m, h5, by omega⟩
theorem ClM.all {E : Edges} {s : Int} {es : List AVal} (hE : Small E) (hs : Sev s) (h : ClM E s 6 es) : ∀ k, ClM E s k es := fun k v n _ hw => by
 obtain ⟨m, h1, h2, h3⟩ := hw.short hE hs
 obtain ⟨d, h4, h5⟩ := h v m h2 h3
 exact ⟨d, h4, by omega⟩
theorem still {E : Edges} {s : Int} {K : Nat} {es : List AVal} (hB : BdM E s K es) (hK : K ≤ 1000000000000) (hC : ∀ k, ClM E s k es) : ∀ (L : Edges) (c : Bool), (∀ e ∈ L, e ∈ E) → L.foldl rel1 (es, c) = (es, c)
 | [], _, _ => rfl
 | e :: L, c, hL => by
  have h1 : rel1 (es, c) e = (es, c) := by
   unfold rel1
   cases h1 : fget es e.1 with
   | none => rfl
   | some d =>
    obtain ⟨n, rfl, hn, hw⟩ := hB _ _ h1
    have hw1 : w1 (n : Int) = n + 1 := w1_small (by omega) (by omega)
    obtain ⟨m, h2, h3⟩ := hC (n + 1) e.2 (n + 1) (Nat.le_refl _) (.snoc hw (by simpa using hL e (by simp)))
    simp only [h2]
    rw [if_neg (by rw [hw1]; omega)]
  rw [List.foldl_cons, h1]
  exact still hB hK hC L c (fun x hx => hL x (by simp [hx]))
theorem iter_ok {ps : Edges} {s : Int} (hE : Small ps) (hs : Sev s) : ∀ (f k K : Nat) {es : List AVal}, 7 ≤ k + f → 0 < f → IntMap es → BdM (edgesOf ps) s K es → ClM (edgesOf ps) s k es → K + 2 * ps.length * f ≤ 1000000000000 →
  ∃ r K', iterP ps f es = some r ∧ IntMap r ∧ K' ≤ 1000000000000 ∧ BdM (edgesOf ps) s K' r ∧ ∀ j, ClM (edgesOf ps) s j r
 | 0, k, K, es, _, h0, _, _, _, _ => absurd h0 (by omega)
 | f + 1, k, K, es, hk, _, hI, hB, hC, hK => by
  have hlen := edges_len ps
  have hmul : 2 * ps.length * (f + 1) = 2 * ps.length * f + 2 * ps.length := Nat.mul_succ _ _
  obtain ⟨a1, a2, a3, a4, a5⟩ := fold_ok (E := edgesOf ps) (edgesOf ps) (c := false) hI hB (by omega) (fun _ h => h)
  rw [← passP_fold] at a1 a2 a3 a4 a5
  unfold iterP
  cases hc : (passP ps (es, false)).2 with
  | false =>
   rw [if_neg (by simp)]
   obtain ⟨h1, -⟩ := a5 hc
   rw [h1] at a3 a4 ⊢
   have hall : ∀ j, ClM (edgesOf ps) s j es := fun j => by
    have : ∀ j, ClM (edgesOf ps) s (k + j) es := fun j => by
     induction j with
     | zero => exact hC
     | succ j ih => exact ClM.pass ih a3 a4
    intro v n hn hw
    exact this j v n (by omega) hw
   exact ⟨es, K, rfl, hI, by omega, hB, hall⟩
  | true =>
   rw [if_pos rfl]
   by_cases h6 : 6 ≤ k
   ·have hall := ClM.all (edges_small hE) hs (fun v n hn hw => hC v n (by omega) hw)
    have := still hB (by omega) hall (edgesOf ps) false (fun _ h => h)
    rw [passP_fold, this] at hc
    cases hc
   ·exact iter_ok hE hs f (k + 1) _ (by omega) (by omega) a1 a2 (hC.pass a3 a4) (by omega)
def goes (ps : Edges) : Int → List (Int × Int) → Option Int
 | x, [] => some x
 | x, p :: l => if p ∈ ps ∧ (p.1 = x ∨ p.2 = x) then goes ps (toE p x) l else none
theorem path_ok {ps : Edges} {s : Int} {r : List AVal} {K : Nat} (hB : BdM (edgesOf ps) s K r) (hK : K ≤ 1000000000000) (hC : ∀ j, ClM (edgesOf ps) s j r) : ∀ (n f : Nat) {x : Int}, n < f → fget r x = some (n : Int) →
  ∃ l, pathP r ps s f x = some l ∧ l.length = n ∧ goes ps x l = some s
 | n, 0, x, h, _ => absurd h (by omega)
 | 0, f + 1, x, _, hx => by
  obtain ⟨n, h1, h2, h3⟩ := hB _ _ hx
  have : n = 0 := by omega
  subst this
  have := h3.zero
  subst this
  exact ⟨[], by simp [pathP], rfl, rfl⟩
 | n + 1, f + 1, x, hf, hx => by
  obtain ⟨n', h1, h2, h3⟩ := hB _ _ hx
  have : n' = n + 1 := by omega
  subst this
  have hne : ¬ x = s := fun e => by
   subst e
   obtain ⟨d, h4, h5⟩ := hC 0 x 0 (Nat.le_refl _) .nil
   rw [hx] at h4
   cases h4
   omega
  have hwm : wm ((fget r x).getD 0) = n := by rw [hx]; show wm (((n + 1 : Nat)) : Int) = n; rw [wm_small (by omega) (by omega)]; omega
  obtain ⟨u, h4, h5⟩ := h3.last
  have hu : fget r u = some (n : Int) := by
   obtain ⟨d, h6, h7⟩ := hC n u n (Nat.le_refl _) h4
   obtain ⟨m, rfl, h8, h9⟩ := hB _ _ h6
   obtain ⟨d2, h10, h11⟩ := hC (m + 1) x (m + 1) (Nat.le_refl _) (.snoc h9 h5)
   rw [hx] at h10
   cases h10
   have : m = n := by omega
   rw [h6, this]
  have hux : u ≠ x := fun e => by
   subst e
   rw [hx] at hu
   simp only [Option.some.injEq] at hu
   omega
  have hex : ∃ p ∈ ps, stepOk r p x = true := by
   rcases mem_edges.1 h5 with h6 | h6
   ·refine ⟨_, h6, ?_⟩
    have : toE (u, x) x = u := by unfold toE; rw [if_neg hux]
    simp only [stepOk, this, hu, hwm]
    simp
   ·refine ⟨_, h6, ?_⟩
    have : toE (x, u) x = u := by unfold toE; rw [if_pos rfl]
    simp only [stepOk, this, hu, hwm]
    simp
  cases hq : stepE r ps x with
  | none =>
   obtain ⟨p, hp, hs⟩ := hex
   have := List.find?_eq_none.1 hq p hp
   exact absurd hs this
  | some q =>
   have hqm := List.mem_of_find?_eq_some hq
   have hqs := List.find?_some hq
   simp only [stepOk, Bool.and_eq_true, Bool.or_eq_true, decide_eq_true_eq, hwm] at hqs
   obtain ⟨hq1, hq2⟩ := hqs
   cases ht : fget r (toE q x) with
   | none => rw [ht] at hq2; cases hq2
   | some d =>
   rw [ht] at hq2
   have hd : d = n := by simpa using hq2
   subst hd
   obtain ⟨l, e1, e2, e3⟩ := path_ok hB hK hC n f (by omega) ht
   refine ⟨q :: l, ?_, by simp [e2], ?_⟩
   ·unfold pathP
    rw [if_neg hne, hq]
    simp only [e1]
   ·unfold goes
    rw [if_pos ⟨hqm, hq1⟩]
    exact e3
theorem way_ok {ps : Edges} {x y : Int} (hE : Small ps) (hy : Sev y) (hl : ps.length ≤ 12) :
  (∃ l, wayF ps x y = some (l, 0) ∧ goes ps x l = some y ∧ MinW (edgesOf ps) y x l.length) ∨ (wayF ps x y = some ([], 5) ∧ ∀ n, ¬ Wk (edgesOf ps) y x n) := by
 have hI : IntMap [mcell y (.int .i64 0)] := fun a h => by rw [List.mem_singleton] at h; exact ⟨y, 0, h⟩
 have hg : ∀ v, fget [mcell y (.int .i64 0)] v = if v = y then some 0 else none := fun v => by
  unfold fget
  by_cases h : v = y
  ·subst h; simp [mcell, mfind]
  ·simp [mcell, mfind, h]
 have hB : BdM (edgesOf ps) y 0 [mcell y (.int .i64 0)] := fun v d h => by
  rw [hg] at h
  split at h
  ·rename_i e; subst e; cases h; exact ⟨0, rfl, Nat.le_refl _, .nil⟩
  ·cases h
 have hC : ClM (edgesOf ps) y 0 [mcell y (.int .i64 0)] := fun v n hn hw => by
  have : n = 0 := by omega
  subst this
  have := hw.zero
  subst this
  exact ⟨0, by rw [hg, if_pos rfl], by omega⟩
 obtain ⟨r, K, h1, h2, h3, h4, h5⟩ := iter_ok hE hy 1000 0 0 (by omega) (by omega) hI hB hC (by omega)
 unfold wayF
 rw [h1]
 simp only
 cases hx : fget r x with
 | none =>
  refine .inr ⟨rfl, fun n hw => ?_⟩
  obtain ⟨d, h6, -⟩ := h5 n x n (Nat.le_refl _) hw
  rw [hx] at h6
  cases h6
 | some d =>
  obtain ⟨n, rfl, h6, h7⟩ := h4 _ _ hx
  obtain ⟨m, h8, h9, h10⟩ := h7.short (edges_small hE) hy
  have hmin : ∀ j, j < n → ¬ Wk (edgesOf ps) y x j := fun j hj hw => by
   obtain ⟨d, h11, h12⟩ := h5 j x j (Nat.le_refl _) hw
   rw [hx] at h11
   cases h11
   omega
  have hn6 : n ≤ 6 := by
   rcases Nat.lt_or_ge m n with h | h
   ·exact absurd h10 (hmin m h)
   ·omega
  obtain ⟨l, e1, e2, e3⟩ := path_ok h4 h3 h5 n 1000 (by omega) hx
  refine .inl ⟨l, by rw [e1], e3, ?_⟩
  rw [e2]
  exact ⟨h7, hmin⟩
end Go.Proofs.YtgbjjikaenlkmaaGreat

/-
 uf: how far each is by the law's table; the least that is not forbidden.
-/
namespace Go.Proofs.YtgbjjikaenlkmaaGreat
open Go Go.Abs Go.Limbs
set_option maxRecDepth 20000
def FL (l : List Int) (v : Int) : Int := l.getD v.toNat 0
def fstep (l : List Int) (p : Int × Int) : List Int := (l.set p.1.toNat (mn2 (FL l p.1) (w1 (FL l p.2)))).set p.2.toNat (mn2 (FL l p.2) (w1 (FL l p.1)))
def passF (ps : Edges) (l : List Int) : List Int := ps.foldl fstep l
def itF (ps : Edges) : Nat → List Int → List Int
 | 0, l => l
 | k + 1, l => passF ps (itF ps k l)
def far0 (x : Int) : List Int := (List.replicate 7 (99 : Int)).set x.toNat 0
structure FB (E : Edges) (s : Int) (l : List Int) : Prop where
 len : l.length = 7
 lo : ∀ v, Sev v → 0 ≤ FL l v
 hi : ∀ v, Sev v → FL l v ≤ 99
 wk : ∀ v, Sev v → FL l v < 99 → Wk E s v (FL l v).toNat
def FC (E : Edges) (s : Int) (k : Nat) (l : List Int) : Prop := ∀ v n, n ≤ k → Wk E s v n → FL l v ≤ n
theorem sev_inj {a b : Int} (ha : Sev a) (hb : Sev b) (h : a.toNat = b.toNat) : a = b := by
 obtain ⟨h1, h2⟩ := ha
 obtain ⟨h3, h4⟩ := hb
 omega
theorem fl_set {l : List Int} {a v x : Int} (hl : l.length = 7) (ha : Sev a) (hv : Sev v) : FL (l.set a.toNat x) v = if v = a then x else FL l v := by
 have h1 : a.toNat < l.length := by obtain ⟨h1, h2⟩ := ha; omega
 unfold FL
 rw [List.getD_eq_getElem?_getD, List.getD_eq_getElem?_getD, List.getElem?_set]
 by_cases h : v = a
 ·subst h
  rw [if_pos rfl, if_pos h1, if_pos rfl]
  rfl
 ·rw [if_neg (fun e => h (sev_inj ha hv e).symm), if_neg h]
theorem mn2_le {a b : Int} : mn2 a b ≤ a ∧ mn2 a b ≤ b ∧ (mn2 a b = a ∨ mn2 a b = b) := by
 unfold mn2
 split
 ·exact ⟨by omega, by omega, .inr rfl⟩
 ·exact ⟨by omega, by omega, .inl rfl⟩
theorem fstep_ok {E : Edges} {s : Int} {l : List Int} {p : Int × Int} (h : FB E s l) (h1 : Sev p.1) (h2 : Sev p.2) (e1 : (p.1, p.2) ∈ E) (e2 : (p.2, p.1) ∈ E) :
  FB E s (fstep l p) ∧ (∀ v, Sev v → FL (fstep l p) v ≤ FL l v) ∧ FL (fstep l p) p.2 ≤ FL l p.1 + 1 ∧ FL (fstep l p) p.1 ≤ FL l p.2 + 1 := by
 have wa : w1 (FL l p.1) = FL l p.1 + 1 := w1_small (h.lo _ h1) (by have := h.hi _ h1; omega)
 have wb : w1 (FL l p.2) = FL l p.2 + 1 := w1_small (h.lo _ h2) (by have := h.hi _ h2; omega)
 have hg : ∀ v, Sev v → FL (fstep l p) v = if v = p.2 then mn2 (FL l p.2) (FL l p.1 + 1) else if v = p.1 then mn2 (FL l p.1) (FL l p.2 + 1) else FL l v := fun v hv => by
  unfold fstep
  rw [fl_set (by simp [h.len]) h2 hv, fl_set h.len h1 hv, wa, wb]
 obtain ⟨a1, a2, a3⟩ := @mn2_le (FL l p.1) (FL l p.2 + 1)
 obtain ⟨b1, b2, b3⟩ := @mn2_le (FL l p.2) (FL l p.1 + 1)
 have la := h.lo _ h1
 have lb := h.lo _ h2
 have ha := h.hi _ h1
 have hb := h.hi _ h2
 have ka : mn2 (FL l p.1) (FL l p.2 + 1) < 99 → Wk E s p.1 (mn2 (FL l p.1) (FL l p.2 + 1)).toNat := fun hlt => by
  rcases a3 with e | e
  ·rw [e] at hlt ⊢; exact h.wk _ h1 hlt
  ·rw [e] at hlt ⊢
   have := Wk.snoc (h.wk _ h2 (by omega)) e2
   rwa [show (FL l p.2).toNat + 1 = (FL l p.2 + 1).toNat by omega] at this
 have kb : mn2 (FL l p.2) (FL l p.1 + 1) < 99 → Wk E s p.2 (mn2 (FL l p.2) (FL l p.1 + 1)).toNat := fun hlt => by
  rcases b3 with e | e
  ·rw [e] at hlt ⊢; exact h.wk _ h2 hlt
  ·rw [e] at hlt ⊢
   have := Wk.snoc (h.wk _ h1 (by omega)) e1
   rwa [show (FL l p.1).toNat + 1 = (FL l p.1 + 1).toNat by omega] at this
 refine ⟨⟨by simp [fstep, h.len], fun v hv => ?_, fun v hv => ?_, fun v hv hlt => ?_⟩, fun v hv => ?_, ?_, ?_⟩
 ·rw [hg v hv]
  have := h.lo v hv
  split
  ·rcases b3 with e | e <;> omega
  ·split
   ·rcases a3 with e | e <;> omega
   ·exact this
 ·rw [hg v hv]
  have := h.hi v hv
  split
  ·omega
  ·split
   ·omega
   ·exact this
 ·rw [hg v hv] at hlt ⊢
  split
  ·rename_i e
   subst e
   rw [if_pos rfl] at hlt
   exact kb hlt
  ·rename_i hne
   rw [if_neg hne] at hlt
   split
   ·rename_i e
    subst e
    rw [if_pos rfl] at hlt
    exact ka hlt
   ·rename_i hne'
    rw [if_neg hne'] at hlt
    exact h.wk v hv hlt
 ·rw [hg v hv]
  split
  ·rename_i e; subst e; exact b1
  ·split
   ·rename_i e; subst e; exact a1
   ·exact Int.le_refl _
 ·rw [hg _ h2, if_pos rfl]
  exact b2
 ·rw [hg _ h1]
  split
  ·rename_i e
   rw [← e] at b1 ⊢
   omega
  ·rw [if_pos rfl]
   exact a2
theorem passF_ok {E : Edges} {s : Int} : ∀ (L : Edges) {l : List Int}, FB E s l → Small L → (∀ p ∈ L, (p.1, p.2) ∈ E ∧ (p.2, p.1) ∈ E) →
  FB E s (passF L l) ∧ (∀ v, Sev v → FL (passF L l) v ≤ FL l v) ∧ ∀ p ∈ L, FL (passF L l) p.2 ≤ FL l p.1 + 1 ∧ FL (passF L l) p.1 ≤ FL l p.2 + 1
 | [], l, h, _, _ => ⟨h, fun _ _ => Int.le_refl _, fun p hp => by simp at hp⟩
 | p :: L, l, h, hs, hE => by
  obtain ⟨s1, s2⟩ := hs p (by simp)
  obtain ⟨e1, e2⟩ := hE p (by simp)
  obtain ⟨a1, a2, a3, a4⟩ := fstep_ok h s1 s2 e1 e2
  obtain ⟨b1, b2, b3⟩ := passF_ok L a1 (fun x hx => hs x (by simp [hx])) (fun x hx => hE x (by simp [hx]))
  have e : passF (p :: L) l = passF L (fstep l p) := rfl
  rw [e]
  refine ⟨b1, fun v hv => Int.le_trans (b2 v hv) (a2 v hv), fun q hq => ?_⟩
  rcases List.mem_cons.1 hq with rfl | hq'
  ·have := b2 _ s1
   have := b2 _ s2
   exact ⟨by omega, by omega⟩
  ·obtain ⟨c1, c2⟩ := b3 q hq'
   obtain ⟨t1, t2⟩ := hs q hq
   have := a2 _ t1
   have := a2 _ t2
   exact ⟨by omega, by omega⟩
theorem far0_at {x v : Int} (hx : Sev x) (hv : Sev v) : FL (far0 x) v = if v = x then 0 else 99 := by
 unfold far0
 rw [fl_set (by simp) hx hv]
 split
 ·rfl
 ·unfold FL
  obtain ⟨h1, h2⟩ := hv
  have h3 : v = 0 ∨ v = 1 ∨ v = 2 ∨ v = 3 ∨ v = 4 ∨ v = 5 ∨ v = 6 := by omega
  rcases h3 with rfl | rfl | rfl | rfl | rfl | rfl | rfl <;> rfl
theorem itF_ok {ps : Edges} {x : Int} (hE : Small ps) (hx : Sev x) : ∀ k, FB (edgesOf ps) x (itF ps k (far0 x)) ∧ FC (edgesOf ps) x k (itF ps k (far0 x))
 | 0 => by
  have hE' := edges_small hE
  refine ⟨⟨by simp [itF, far0], fun v hv => ?_, fun v hv => ?_, fun v hv h => ?_⟩, fun v n hn hw => ?_⟩
  ·show 0 ≤ FL (far0 x) v
   rw [far0_at hx hv]; split <;> omega
  ·show FL (far0 x) v ≤ 99
   rw [far0_at hx hv]; split <;> omega
  ·show Wk _ x v (FL (far0 x) v).toNat
   have h' : FL (far0 x) v < 99 := h
   rw [far0_at hx hv] at h' ⊢
   split at h'
   ·rename_i e; subst e; rw [if_pos rfl]; exact .nil
   ·omega
  ·have : n = 0 := by omega
   subst this
   have := hw.zero
   subst this
   show FL (far0 v) v ≤ _
   rw [far0_at hx hx, if_pos rfl]
   exact Int.le_refl _
 | k + 1 => by
  obtain ⟨h1, h2⟩ := itF_ok hE hx k
  obtain ⟨a1, a2, a3⟩ := passF_ok ps h1 hE (fun p hp => ⟨mem_edges.2 (.inl hp), mem_edges.2 (.inr hp)⟩)
  refine ⟨a1, fun v n hn hw => ?_⟩
  cases n with
  | zero =>
   have := h2 v 0 (by omega) hw
   exact Int.le_trans (a2 v (hw.sev (edges_small hE) hx)) this
  | succ n =>
   obtain ⟨u, h3, h4⟩ := hw.last
   have h5 := h2 u n (by omega) h3
   show FL (passF ps (itF ps k (far0 x))) v ≤ _
   rcases mem_edges.1 h4 with h6 | h6
   ·have := (a3 _ h6).1
    simp only at this
    omega
   ·have := (a3 _ h6).2
    simp only at this
    omega
theorem far_min {ps : Edges} {x y : Int} {n : Nat} (hE : Small ps) (hx : Sev x) (h : MinW (edgesOf ps) y x n) : FL (itF ps 7 (far0 x)) y = n ∧ n < 99 := by
 obtain ⟨h1, h2⟩ := itF_ok hE hx 7
 have hs := edges_sym ps
 have hw := h.1.rev hs
 have hy : Sev y := hw.sev (edges_small hE) hx
 have hm : MinW (edgesOf ps) x y n := ⟨hw, fun j hj hw' => h.2 j hj (hw'.rev hs)⟩
 have h6 := minW_short (edges_small hE) hx hm
 have h3 := h2 y n (by omega) hw
 have h4 := h1.wk y hy (by omega)
 have h5 := h1.lo y hy
 refine ⟨?_, by omega⟩
 rcases Nat.lt_or_ge (FL (itF ps 7 (far0 x)) y).toNat n with h7 | h7
 ·exact absurd h4 (hm.2 _ h7)
 ·omega
theorem far_none {ps : Edges} {x y : Int} (hE : Small ps) (hx : Sev x) (hy : Sev y) (h : ∀ n, ¬ Wk (edgesOf ps) y x n) : ¬ FL (itF ps 7 (far0 x)) y < 99 := fun hlt => by
 obtain ⟨h1, -⟩ := itF_ok hE hx 7
 exact h _ ((h1.wk y hy hlt).rev (edges_sym ps))
def innW (L : List Int) (a : Int) : Int := L.foldl (fun a x => if x = a then w1 a else a) a
theorem inn_ok : ∀ (L : List Int) {a : Int}, 0 ≤ a → a + L.length ≤ 1000000 → a ≤ innW L a ∧ innW L a ≤ a + L.length ∧ (∀ j, a ≤ j → j < innW L a → j ∈ L) ∧ (a ∈ L → a < innW L a)
 | [], a, _, _ => ⟨Int.le_refl _, by simp [innW], fun j h1 h2 => by simp only [innW, List.foldl_nil] at h2; omega, fun h => by simp at h⟩
 | x :: L, a, h0, hb => by
  simp only [List.length_cons, Int.natCast_add, Int.natCast_one] at hb
  have e : innW (x :: L) a = innW L (if x = a then w1 a else a) := rfl
  rw [e]
  by_cases h : x = a
  ·have hw : w1 a = a + 1 := w1_small h0 (by omega)
   rw [if_pos h, hw]
   obtain ⟨h1, h2, h3, h4⟩ := inn_ok L (a := a + 1) (by omega) (by omega)
   refine ⟨by omega, by simp only [List.length_cons, Int.natCast_add, Int.natCast_one]; omega, fun j h5 h6 => ?_, fun _ => by omega⟩
   by_cases h7 : j = a
   ·subst h7; subst h; simp
   ·exact List.mem_cons_of_mem _ (h3 j (by omega) h6)
  ·rw [if_neg h]
   obtain ⟨h1, h2, h3, h4⟩ := inn_ok L (a := a) h0 (by omega)
   refine ⟨h1, by simp only [List.length_cons, Int.natCast_add, Int.natCast_one]; omega, fun j h5 h6 => List.mem_cons_of_mem _ (h3 j h5 h6), fun hm => ?_⟩
   rcases List.mem_cons.1 hm with h7 | h7
   ·exact absurd h7.symm h
   ·exact h4 h7
def itL (L : List Int) : Nat → Int → Int
 | 0, a => a
 | k + 1, a => innW L (itL L k a)
theorem itL_ok {L : List Int} (hL : L.length ≤ 100) : ∀ k : Nat, k ≤ 100 → 0 ≤ itL L k 0 ∧ itL L k 0 ≤ k * L.length ∧ (∀ j, 0 ≤ j → j < itL L k 0 → j ∈ L) ∧ (itL L k 0 ∉ L ∨ (k : Int) ≤ itL L k 0)
 | 0, _ => ⟨Int.le_refl _, by simp [itL], fun j h1 h2 => by simp only [itL] at h2; omega, .inr (Int.le_refl _)⟩
 | k + 1, hk => by
  obtain ⟨h1, h2, h3, h4⟩ := itL_ok hL k (by omega)
  have hb : (k : Int) * L.length ≤ 10000 := by
   have : k * L.length ≤ 100 * 100 := Nat.mul_le_mul (by omega) hL
   have h := Int.ofNat_le.2 this
   simpa using h
  obtain ⟨a1, a2, a3, a4⟩ := inn_ok L h1 (by omega)
  have hm : ((k + 1 : Nat) : Int) * L.length = (k : Int) * L.length + L.length := by
   rw [Int.natCast_add, Int.add_mul]; simp
  refine ⟨by show 0 ≤ innW L _; omega, by rw [hm]; show innW L _ ≤ _; omega, fun j j1 j2 => ?_, ?_⟩
  ·by_cases h : j < itL L k 0
   ·exact h3 j j1 h
   ·exact a3 j (by omega) j2
  ·by_cases h : itL L k 0 ∈ L
   ·right
    have h5 := a4 h
    have h6 : (k : Int) ≤ itL L k 0 := by
     rcases h4 with h4 | h4
     ·exact absurd h h4
     ·exact h4
    show ((k + 1 : Nat) : Int) ≤ innW L _
    omega
   ·left
    show innW L (itL L k 0) ∉ L
    have h5 : innW L (itL L k 0) = itL L k 0 := by
     rcases Int.lt_or_le (itL L k 0) (innW L (itL L k 0)) with h6 | h6
     ·exact absurd (a3 _ (Int.le_refl _) h6) h
     ·omega
    rw [h5]
    exact h
theorem freeGo_is {L : List Int} {m : Nat} (h1 : (m : Int) ∉ L) (h2 : ∀ j : Nat, j < m → (j : Int) ∈ L) : ∀ (f k : Nat), k ≤ m → m < k + f → freeGo L k f = some m
 | 0, k, h3, h4 => absurd h4 (by omega)
 | f + 1, k, h3, h4 => by
  unfold freeGo
  by_cases h : k = m
  ·subst h; rw [if_neg h1]
  ·rw [if_pos (h2 k (by omega))]
   exact freeGo_is h1 h2 f (k + 1) (by omega) (by omega)
theorem least_ok {L : List Int} (hL : L.length ≤ 20) : ∃ m : Nat, itL L (L.length + 1) 0 = m ∧ m ≤ 20 ∧ freeGo L 0 1000 = some m := by
 obtain ⟨h1, h2, h3, h4⟩ := itL_ok (L := L) (by omega) (L.length + 1) (by omega)
 obtain ⟨m, hm⟩ := Int.eq_ofNat_of_zero_le h1
 rw [hm] at h1 h3 h4 ⊢
 have hall : ∀ j : Nat, j < m → (j : Int) ∈ L := fun j hj => h3 j (by omega) (by omega)
 have hlen : m ≤ L.length := by
  have := pigeon ((List.range m).map (fun j : Nat => (j : Int))) L (List.Pairwise.map _ (fun a b h e => h (by have e' : (a : Int) = b := e; omega)) List.nodup_range) (fun x hx => by
   obtain ⟨j, hj, rfl⟩ := List.mem_map.1 hx
   exact hall j (by simpa using hj))
  simpa using this
 have hn : (m : Int) ∉ L := by
  rcases h4 with h4 | h4
  ·exact h4
  ·omega
 exact ⟨m, rfl, by omega, freeGo_is hn hall 1000 0 (by omega) (by omega)⟩
end Go.Proofs.YtgbjjikaenlkmaaGreat
