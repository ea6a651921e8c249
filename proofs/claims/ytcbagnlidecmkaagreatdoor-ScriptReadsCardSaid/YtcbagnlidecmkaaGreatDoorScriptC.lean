/-
  What the methods of a command compute, part 2, and Parse. No conditions beyond the lemmas' own hypotheses.
-/
import Derived.Test.YtcbagnlidecmkaaGreatDoorScriptB
set_option linter.unusedSimpArgs false
set_option linter.unnecessarySimpa false
set_option linter.unusedVariables false
set_option linter.constructorNameAsVariable false

/-
 script: methods of commands: definitions.
-/
namespace Go.Proofs.YtcbagnlidecmkaaGreatDoor
open Go Go.Abs Go.Lex Go.Sexp
variable {base : Prot}
set_option maxRecDepth 20000
attribute [local simp] pureS touchV freezeL fuel shiftV
def parsM : List (Tr Wd) → List Par → Bool × List Par
 | [], acc => (true, acc)
 | .list [a, d] :: r, acc => if (sb a && sb d && !(acc.map Prod.fst).contains (sy a)) = true then parsM r (acc ++ [(sy a, sy d)]) else (false, acc)
 | _ :: _, acc => (false, acc)
def defM (l : List (Tr Wd)) : Bool × Cmd Wd := match l with
 | [a, .list ks, r, t] => if (parsM ks []).1 = true then (sb a && sb r, { c0 zW 6 with name := sy a, params := (parsM ks []).2, result := sy r, term := t }) else (false, { c0 zW 6 with params := (parsM ks []).2 })
 | _ => (false, c0 zW 6)
def defF : CmdF := fun kd l => if kd = 6 ∧ sizeL l ≤ 1000000 then some (defM l) else none
theorem freeze1_app {H E : Heap} {j : Nat} (h : j < H.length) : freeze1 (H ++ E) j = freeze1 H j ++ E := by
 unfold freeze1
 rw [List.getElem?_append_left h, List.getElem?_eq_getElem h]
 simp only
 rw [List.set_append_left _ _ h]
theorem OutP.frz {N : Nat} {x : AVal} {H : Heap} {l : List Par} (h : OutP N x H l) : ∃ (L : List Nat) (Hf : Heap), (∀ E : Heap, touchV (H ++ E) 8 x = L) ∧ (∀ E : Heap, List.foldl freeze1 (H ++ E) L = Hf ++ E) ∧ Hf.length = H.length ∧ OutP N x Hf l ∧ ∀ i, i < N → Hf[i]? = H[i]? := by
 rcases h with ⟨rfl, rfl⟩ | ⟨j, ver, fz, h0, rfl, h2⟩
 ·exact ⟨[], H, fun _ => rfl, fun _ => rfl, rfl, .inl ⟨rfl, rfl⟩, fun _ _ => rfl⟩
 ·have hj := (List.getElem?_eq_some_iff.1 h2).1
  refine ⟨[j], freeze1 H j, fun E => ?_, fun E => ?_, ?_, .inr ⟨j, ver, true, h0, rfl, ?_⟩, fun i hi => freeze1_far H (by omega)⟩
  ·have hE : (H ++ E)[j]? = some (parE ver fz l) := by rw [List.getElem?_append_left hj]; exact h2
   unfold parE at hE
   simp only [touchV, hE]
   have : (((l.map fun q => AVal.p (parP q)).drop 0).take l.length).flatMap (touchV (H ++ E) 7) = [] := by
    rw [List.flatMap_eq_nil_iff]
    intro y hy
    have hy' := List.mem_of_mem_take hy
    simp only [List.drop_zero, List.mem_map] at hy'
    obtain ⟨q, _, rfl⟩ := hy'
    rfl
   rw [this]
  ·show freeze1 (H ++ E) j = _
   exact freeze1_app hj
  ·unfold freeze1
   rw [h2]; simp
  ·unfold freeze1
   rw [h2]
   simp only
   rw [List.getElem?_set_self hj]; rfl
def Tdf : Tab := ((Tab.none.with 22 (pureS sSym)).with 52 (pureS sCopy)).with 69 (pureS sCtP)
theorem Tdf_ok : TabOk Tryz.prog base Tdf := Tab.with_ok (Tab.with_ok (Tab.with_ok Tab.none_ok symbol_ok) copy_ok) ctp_ok
theorem Tdf_mu (f : FuncId) (a : List AVal) (H : Heap) : Tdf.mu f a H = none := (rfl)
theorem Tdf_1 : Tdf.fn 22 = pureS sSym := (rfl)
theorem Tdf_2 : Tdf.fn 52 = pureS sCopy := (rfl)
theorem Tdf_3 : Tdf.fn 69 = pureS sCtP := (rfl)
attribute [local simp] Tdf_mu Tdf_1 Tdf_2 Tdf_3
theorem parsM_bad {t : Tr Wd} {r : List (Tr Wd)} {acc : List Par} (h : ∀ a d, t ≠ .list [a, d]) : parsM (t :: r) acc = (false, acc) := by
 unfold parsM
 split
 ·rename_i heq; cases heq
 ·rename_i a d _ heq; cases heq; exact absurd rfl (h a d)
 ·rename_i heq; cases heq; rfl
theorem pre3 {H : Heap} {a b c : Ent} {i : Nat} (h : i < H.length + 2) : (H ++ [a, b, c])[i]? = (H ++ [a, b])[i]? := by
 have : H ++ [a, b, c] = (H ++ [a, b]) ++ [c] := by simp
 rw [this, List.getElem?_append_left (by simp; omega)]
theorem def_cm_ok : MuOk Tryz.prog base 51 (cmdM defF) := by
 refine cmd_of_vc Tdf_ok low51 fun kd l b c k H0 hF hk => ?_
 unfold defF at hF
 split at hF
 case isFalse => cases hF
 rename_i hc
 obtain ⟨rfl, hsz⟩ := hc
 have hF' := Option.some.inj hF
 clear hF
 refine ⟨by simp [lf51], ?_⟩
 have hkl : k < H0.length := (List.getElem?_eq_some_iff.1 hk).1
 have hk' := hk
 simp only [newE, newC] at hk'
 have hne := new_end (base := base) hk
 have hbad : ∀ l : List (Tr Wd), (((encL l).length : Int) != 4) = true → ∀ b c, (false, c0 zW 6) = (b, c) → vc Tdf lf51.body (ownZ base Tdf lf51.results (.p (.bool b)) (H0.set k (cmdE c))) (initFr [.optr k 0 0 0, .p (.lst (encL l))]) H0 := fun l hl b c h => by
  cases h
  simp [lf51, hl, ownZ]
  exact hne
 match l with
 | [] => exact hbad _ (by rfl) _ _ hF'
 | [a] => exact hbad _ (by rfl) _ _ hF'
 | [a, d] => exact hbad _ (by rfl) _ _ (by cases d <;> exact hF')
 | [a, d, r] => exact hbad _ (by rfl) _ _ (by cases d <;> exact hF')
 | a :: d :: r :: e :: g :: l => exact hbad _ (by rw [encL_len]; simp; omega) _ _ (by cases d <;> exact hF')
 | [a, .leaf w, r, t] =>
  cases hF'
  simp [lf51, encL, encT, ownZ]
  exact hne
 | [a, .list ks, r, tt] =>
  have h1 := sSym_at a
  have h3 := sSym_at r
  have hcp := sCopy_at (t := tt) (by simp only [sizeL] at hsz; omega)
  have hks := kids_size (l := [a, .list ks, r, tt]) (ks := ks) (by simp)
  have hkl2 := len_size ks
  obtain ⟨ab, ak, as_, aa, avs, aen⟩ := encT_shape a
  obtain ⟨rb, rk, rs, ra, rvs, ren⟩ := encT_shape r
  obtain ⟨xb, xk, xs, xa, xvs, xen⟩ := encT_shape tt
  rw [aen] at h1
  rw [ren] at h3
  have htc := term_cells xen
  rw [xen] at hcp
  simp [lf51, encL, encT, aen, ren, xen, encL_len]
  simp only [lf51_B0, vc_block]
  refine loop_ind (fun fr H => ∃ (i : Nat) (acc : List Par) (x : AVal), i ≤ ks.length ∧ fr 0 = .optr k 0 0 0 ∧ fr 1 = .p (.lst [encT a, encT (.list ks), encT r, encT tt]) ∧ fr 29 = .p (.lst (encL ks)) ∧ fr 30 = .p (.int .i64 (ks.length : Int)) ∧ fr 31 = .p (.int .i64 (i : Int)) ∧
    H[k]? = some ⟨11, 0, false, [parC 6 [] x [] noTerm], 31⟩ ∧ OutP H0.length x H acc ∧ H0.length ≤ H.length ∧ (∀ j, j < H0.length → j ≠ k → H[j]? = H0[j]?) ∧ acc.length ≤ i ∧ parsM ks [] = parsM (ks.drop i) acc)
   (fun fr _ => ks.length - ivar (fr 31)) ⟨0, [], .tight [], by simp, by simp, by simp [aen, ren, xen, encT], by simp, by simp, by simp, by rw [hk']; rfl, .inl ⟨rfl, rfl⟩, Nat.le_refl _, fun _ _ _ => rfl, by simp, by simp⟩ ?_
  rintro fr H ⟨i, acc, x, hi, f0, f1, f29, f30, f31, g1, g2, g3, g4, g5, g6⟩
  have g1' := g1
  simp only [parC, noTerm, List.cons_append, List.nil_append] at g1'
  have hkH : k < H.length := by omega
  have ga : ∀ E : Heap, (H ++ E)[k]? = some ⟨11, 0, false, [.agg [.p (.int .i64 6), .p (.str []), x, .p (.str []), .p (.bool false), .p (.int .i64 0), .p (.str []), .p (.int .i64 0), .tight [], .tight [], .p (.int .i64 0)]], 31⟩ := fun E => by rw [List.getElem?_append_left hkH]; exact g1'
  -- the end when a parameter is refused
  have hstop : ∀ (H' : Heap) (x' : AVal) (acc' : List Par), parsM ks [] = (false, acc') → H'[k]? = some ⟨11, 0, false, [parC 6 [] x' [] noTerm], 31⟩ → OutP H0.length x' H' acc' → (∀ j, j < H0.length → j ≠ k → H'[j]? = H0[j]?) → b = false ∧ ∃ E, HSeen base H' (H0.set k (cmdE c) ++ E) := by
   intro H' x' acc' hp h1 h2 h3
   have e : defM [a, .list ks, r, tt] = (false, { c0 zW 6 with params := acc' }) := by simp only [defM, hp]; rfl
   rw [e] at hF'
   cases hF'
   exact ⟨rfl, par_end (tr := .leaf zW) rfl hkl h1 h2 h3 (.inl ⟨rfl, rfl⟩)⟩
  by_cases hlt : i < ks.length
  ·obtain ⟨t, hti⟩ : ∃ t, ks[i]? = some t := ⟨_, List.getElem?_eq_getElem hlt⟩
   have hg := encL_get hti
   obtain ⟨_, hti'⟩ := List.getElem?_eq_some_iff.1 hti
   rw [List.drop_eq_getElem_cons hlt, hti'] at g6
   have hst : ∀ E : Heap, parsM ks [] = (false, acc) → b = false ∧ ∃ E', HSeen base (H ++ E) (H0.set k (cmdE c) ++ E') := fun E hp =>
    hstop (H ++ E) x acc hp (by rw [List.getElem?_append_left hkH]; exact g1) (g2.keep fun j hj _ => List.getElem?_append_left hj) (fun j hj hne => by rw [List.getElem?_append_left (by omega)]; exact g4 j hj hne)
   have gn : ∀ e1 : Ent, (H ++ [e1])[H.length]? = some e1 := fun e1 => by simp
   match t with
   | .leaf w =>
    rw [parsM_bad (fun _ _ h => by cases h)] at g6
    simp only [encT] at hg
    simp [f0, f29, f30, f31, hlt, hg, get_end, set_end, ownZ]
    exact hst _ g6
   | .list [] =>
    rw [parsM_bad (fun _ _ h => by cases h)] at g6
    simp only [encT, encL] at hg
    simp [f0, f29, f30, f31, hlt, hg, get_end, set_end, ownZ]
    exact hst _ g6
   | .list [p] =>
    rw [parsM_bad (fun _ _ h => by cases h)] at g6
    simp only [encT, encL] at hg
    simp [f0, f29, f30, f31, hlt, hg, get_end, set_end, ownZ]
    exact hst _ g6
   | .list (p :: q :: s :: u) =>
    rw [parsM_bad (fun _ _ h => by cases h)] at g6
    have l1 : (((encL u).length : Int) + 1 + 1 + 1 != 2) = true := by simp; omega
    simp only [encT, encL] at hg
    simp [f0, f29, f30, f31, hlt, hg, get_end, set_end, ownZ, l1]
    exact hst _ g6
   | .list [p, q] =>
    have hp := sSym_at p
    have hq := sSym_at q
    obtain ⟨pb, pk, ps, pa, pvs, pen⟩ := encT_shape p
    obtain ⟨qb, qk, qs, qa, qvs, qen⟩ := encT_shape q
    rw [pen] at hp
    rw [qen] at hq
    have hct : sCtP [.lst (acc.map parP), .clo 70 [.cptr [.str (sy p)]]] = some (.bool ((acc.map Prod.fst).contains (sy p))) := by
     simp only [sCtP, decPr_map]
     rw [if_pos trivial, if_pos (by omega)]
    obtain ⟨L, Hf, k1, k2, k3, k4, k5⟩ := g2.frz
    have kr : ∀ E : Heap, resolveV (H ++ E) 8 x = some (.lst (acc.map parP)) := fun E => (g2.keep (H' := H ++ E) fun j hj _ => List.getElem?_append_left hj).res 6
    have ke : parsM (.list [p, q] :: ks.drop (i + 1)) acc = if (sb p && sb q && !(acc.map Prod.fst).contains (sy p)) = true then parsM (ks.drop (i + 1)) (acc ++ [(sy p, sy q)]) else (false, acc) := rfl
    rw [ke] at g6
    generalize (acc.map Prod.fst).contains (sy p) = cn at hct g6
    generalize sb p = bp at hp g6
    generalize sb q = bq at hq g6
    simp only [encT, encL, pen, qen] at hg
    have n2 : ∀ e1 e2 : Ent, (H ++ [e1, e2])[H.length + 1]? = some e2 := fun e1 e2 => by rw [List.getElem?_append_right (by omega)]; simp
    have m2 : ∀ e1 e2 : Ent, (Hf ++ [e1, e2])[H.length + 1]? = some e2 := fun e1 e2 => by rw [List.getElem?_append_right (by omega), k3]; simp
    have s2 : ∀ e1 e2 e3 : Ent, (H ++ [e1, e2]).set (H.length + 1) e3 = H ++ [e1, e3] := fun e1 e2 e3 => by rw [List.set_append_right _ _ (by omega)]; simp
    have kz : ∀ e1 e2 : Ent, freeze1 (Hf ++ [e1, e2]) (H.length + 1) = Hf ++ [e1, ⟨e2.size, e2.ver, true, e2.elems, e2.ty⟩] := fun e1 e2 => by
     unfold freeze1
     rw [m2]
     simp only
     rw [List.set_append_right _ _ (by omega), k3]; simp
    have kf : k < Hf.length := by omega
    have gf : ∀ E : Heap, (Hf ++ E)[k]? = some ⟨11, 0, false, [.agg [.p (.int .i64 6), .p (.str []), x, .p (.str []), .p (.bool false), .p (.int .i64 0), .p (.str []), .p (.int .i64 0), .tight [], .tight [], .p (.int .i64 0)]], 31⟩ := fun E => by rw [List.getElem?_append_left kf, k5 k hkl]; exact g1'
    have hst2 : ∀ E : Heap, parsM ks [] = (false, acc) → b = false ∧ ∃ E', HSeen base (Hf ++ E) (H0.set k (cmdE c) ++ E') := fun E hp =>
     hstop (Hf ++ E) x acc hp (gf E) (k4.keep fun j hj _ => List.getElem?_append_left hj) (fun j hj hne => by rw [List.getElem?_append_left (by omega), k5 j hj]; exact g4 j hj hne)
    cases bp with
    | false =>
     simp at g6
     simp [f0, f29, f30, f31, hlt, hg, get_end, set_end, hp, hq, ga, k1, k2, kr, hct, mkClo, n2, s2, kz, gf, m2, ownZ]
     exact hst2 _ g6
    | true =>
     cases bq with
     | false =>
      simp at g6
      simp [f0, f29, f30, f31, hlt, hg, get_end, set_end, hp, hq, ga, k1, k2, kr, hct, mkClo, n2, s2, kz, gf, m2, ownZ]
      exact hst2 _ g6
     | true =>
      cases cn with
      | true =>
       simp at g6
       simp [f0, f29, f30, f31, hlt, hg, get_end, set_end, hp, hq, ga, k1, k2, kr, hct, mkClo, n2, s2, kz, gf, m2, ownZ]
       exact hst2 _ g6
      | false =>
       simp at g6
       simp [f0, f29, f30, f31, hlt, hg, get_end, set_end, hp, hq, ga, k1, k2, kr, hct, mkClo, n2, s2, kz, gf, m2]
       rw [vc_regionW]
       refine ⟨[], ?_⟩
       obtain ⟨x', H', e1, e2, e3, e4⟩ := (k4.keep (H' := Hf ++ [⟨5, 0, false, [.p (.agg [.bool true, .int .i64 0, .str [], .int .i64 0, .lst [.agg [.bool pb, .int .i64 pk, .str ps, .int .i64 pa, .lst pvs], .agg [.bool qb, .int .i64 qk, .str qs, .int .i64 qa, .lst qvs]]])], 29⟩, ⟨1, 0, true, [.p (.str (sy p))], 9⟩, parE 0 false [(sy p, sy q)]]) fun j hj _ => by rw [List.getElem?_append_left hj]).app (by simp; omega) (by omega) (sy p, sy q)
       have gb := (e4 k hkl).trans (gf _)
       have kH' : k < H'.length := by simp at e3; omega
       rcases e2 with ⟨_, hnil⟩ | ⟨j', ver', fz', q1, rfl, q3⟩
       ·have := congrArg List.length hnil
        simp at this
       have fin : ∀ C : Ent, C = ⟨11, 0, false, [parC 6 [] (.own j' 0 (acc ++ [(sy p, sy q)]).length ver') [] noTerm], 31⟩ → ∃ (acc' : List Par) (x : AVal), (H'.set k C)[k]? = some ⟨11, 0, false, [parC 6 [] x [] noTerm], 31⟩ ∧ OutP H0.length x (H'.set k C) acc' ∧ H0.length ≤ H'.length ∧ (∀ j, j < H0.length → ¬ j = k → (H'.set k C)[j]? = H0[j]?) ∧ acc'.length ≤ i + 1 ∧ parsM ks [] = parsM (ks.drop (i + 1)) acc' := by
        rintro C rfl
        refine ⟨acc ++ [(sy p, sy q)], _, List.getElem?_set_self kH', .inr ⟨j', ver', fz', q1, rfl, ?_⟩, by simp at e3; omega, fun j hj hne => ?_, by simp; omega, g6⟩
        ·rw [List.getElem?_set_ne (by omega)]; exact q3
        ·rw [List.getElem?_set_ne (fun h => hne h.symm), e4 j hj, List.getElem?_append_left (by omega), k5 j hj]
         exact g4 j hj hne
       unfold parE parP at e1
       simp only [List.map_cons, List.map_nil] at e1
       simp [f0, f29, f30, f31, gf, m2, k3, e1, gb, fillS, fillA, -appV, wrap_succ (i := i) (by omega)]
       refine ⟨by omega, fun i' hi' => ?_, ⟨i + 1, by omega, f1, by simp, fin _ (by simp [parC, noTerm])⟩, by simp only [ivar]; omega⟩
       rw [pre3 (by omega)]
  ·have hil : i = ks.length := by omega
   subst hil
   rw [List.drop_length] at g6
   have hp : parsM ks [] = (true, acc) := g6
   have hb : b = (sb a && sb r) := by
    have h := congrArg Prod.fst hF'
    dsimp only at h
    rw [← h]
    simp only [defM, hp]; rfl
   have hcc : c = { c0 zW 6 with name := sy a, params := acc, result := sy r, term := tt } := by
    have h := congrArg Prod.snd hF'
    dsimp only at h
    rw [← h]
    simp only [defM, hp]; rfl
   have gs : ∀ e : Ent, (H.set k e)[k]? = some e := fun e => List.getElem?_set_self (by omega)
   have hend : ∀ C : Ent, C = ⟨11, 0, false, [parC 6 (sy a) x (sy r) ((termC tt).map .p)], 31⟩ → ∃ E, HSeen base (H.set k C) (H0.set k (cmdE c) ++ E) := by
    rintro C rfl
    rw [hcc]
    exact par_end rfl hkl (gs _) (g2.keep fun j hj hN => List.getElem?_set_ne (by omega)) (fun j hj hne => by rw [List.getElem?_set_ne (Ne.symm hne)]; exact g4 j hj hne) (.inr rfl)
   simp only [parC, htc, List.map_cons, List.map_nil, List.cons_append, List.nil_append] at hend
   simp only [aen, ren, xen, encT] at f1
   generalize sb a = ba at *
   generalize sb r = br at *
   rcases g2 with ⟨rfl, hnil⟩ | ⟨j', ver', fz', q1, rfl, q3⟩
   ·cases ba <;> simp [f0, f1, f30, f31, h1, h3, hcp, g1', gs, ownZ] <;> exact ⟨by rw [hb]; simp, hend _ rfl⟩
   ·cases ba <;> simp [f0, f1, f30, f31, h1, h3, hcp, g1', gs, ownZ] <;> exact ⟨by rw [hb]; simp, hend _ rfl⟩
end Go.Proofs.YtcbagnlidecmkaaGreatDoor

/-
 script: what stands behind a command's name; constants.
-/
namespace Go.Proofs.YtcbagnlidecmkaaGreatDoor
open Go Go.Abs Go.Lex Go.Sexp
variable {base : Prot}
set_option maxRecDepth 20000
attribute [local simp] pureS touchV freezeL fuel shiftV
def twoC (a r : Tr Wd) : Cmd Wd := { c0 zW 5 with name := sy a, result := sy r }
def listA : AVal := .agg [.p (.bool true), .p (.int .i64 0), .p (.str []), .p (.int .i64 0), .tight []]
def isTri : Ent → Option (Tr Wd × Tr Wd)
 | ⟨5, 0, false, [.p v, .agg [.p (.bool true), .p (.int .i64 0), .p (.str []), .p (.int .i64 0), .tight []], .p u], t⟩ => if t = 29 then (match decT v, decT u with | some a, some r => some (a, r) | _, _ => none) else none
 | _ => none
theorem isTri_some {e : Ent} {a r : Tr Wd} (h : isTri e = some (a, r)) : e = rowE 0 false [.p (encT a), listA, .p (encT r)] := by
 unfold isTri at h
 split at h
 ·split at h
  ·rename_i ht
   subst ht
   split at h
   ·rename_i h1 h2
    cases h
    rw [decT_some h1, decT_some h2]; rfl
   ·cases h
  ·cases h
 ·cases h
theorem isTri_tri (a r : Tr Wd) : isTri (rowE 0 false [.p (encT a), listA, .p (encT r)]) = some (a, r) := by
 simp only [rowE, listA, isTri, decT_enc]
 rw [if_pos trivial]
def funO : List AVal → Heap → Option (AVal × Heap)
 | [.optr k 0 0 0, .own j 0 3 0], H => if j = k then none else match H[j]?, H[k]? with
  | some e, some d => match isTri e, isNew d with
   | some (a, r), some kd => if kd = 5 then some (.p (.bool (sb a && sb r)), H.set k (cmdE (twoC a r))) else none
   | _, _ => none
  | _, _ => none
 | _, _ => none
attribute [local simp] Tmt_mu Tmt_1 Tmt_2 Tmt_3 Tmt_4
theorem fun_o_ok : MuOk Tryz.prog base 48 funO := by
 refine own_of_vcZ hmix Tmt_ok globNone low48 fun args H r0 H' hs hf hb => ?_
 unfold funO at hs
 split at hs
 case h_2 => cases hs
 rename_i k j
 split at hs
 case isTrue => cases hs
 rename_i hjk
 split at hs
 case h_2 => cases hs
 rename_i e d hj hk
 split at hs
 case h_2 => cases hs
 rename_i a r kd ht hn
 split at hs
 case isFalse => cases hs
 rename_i hkd
 subst hkd
 cases hs
 have := isTri_some ht
 subst this
 have := isNew_some hn
 subst this
 refine ⟨by simp [lf48], by simp, belowSet hb, .p _, ?_⟩
 have hkl : k < H.length := (List.getElem?_eq_some_iff.1 hk).1
 have hk' := hk
 simp only [newE, newC] at hk'
 have hj' := hj
 simp only [rowE, listA] at hj'
 have h1 := sSym_at a
 have h3 := sSym_at r
 obtain ⟨ab, ak, as_, aa, avs, aen⟩ := encT_shape a
 obtain ⟨rb, rk, rs, ra, rvs, ren⟩ := encT_shape r
 rw [aen] at h1 hj'
 rw [ren] at h3 hj'
 generalize hba : sb a = ba at *
 generalize hbr : sb r = br at *
 simp [lf48, hj', h1, h3]
 simp only [lf48_B0, vc_block]
 refine loop_ind (fun fr H' => H' = H ∧ fr 0 = .optr k 0 0 0 ∧ fr 40 = .tight [] ∧ fr 41 = .p (.int .i64 0) ∧ fr 42 = .p (.int .i64 0) ∧ fr 5 = .p (.str (sy a)) ∧ fr 6 = .p (.bool ba) ∧ fr 7 = .p (.str (sy r)) ∧ fr 8 = .p (.bool br)) (fun _ _ => 0) ⟨rfl, by simp, by simp, by simp, by simp, by simp, by simp, by simp, by simp⟩ ?_
 rintro fr H' ⟨rfl, f0, f40, f41, f42, f5, f6, f7, f8⟩
 have gs : ∀ e : Ent, (H'.set k e)[k]? = some e := fun e => List.getElem?_set_self hkl
 have hend : ∀ C : Ent, C = ⟨11, 0, false, [parC 5 (sy a) (.tight []) (sy r) noTerm], 31⟩ → ∃ E, HSeen base (H'.set k C) (H'.set k (cmdE (twoC a r)) ++ E) := by
  rintro C rfl
  exact par_end (l := []) (tr := .leaf zW) rfl hkl (gs _) (.inl ⟨rfl, rfl⟩) (fun j hj hne => List.getElem?_set_ne (Ne.symm hne)) (.inl ⟨rfl, rfl⟩)
 cases ba <;> simp [f0, f41, f42, f5, f6, f7, f8, hk', gs, ownZ] <;> exact hend _ rfl
def constM (l : List (Tr Wd)) : Bool × Cmd Wd := match l with
 | [a, r] => (sb a && sb r, twoC a r)
 | _ => (false, c0 zW 5)
def constF : CmdF := fun kd l => if kd = 0 ∧ sizeL l ≤ 1000000 then some (constM l) else none
def Tco : Tab := Tab.none.own 48 funO
theorem Tco_ok : TabOk Tryz.prog base Tco := Tab.own_ok Tab.none_ok fun_o_ok
theorem Tco_1 : Tco.mu 48 = funO := (rfl)
attribute [local simp] Tco_1
theorem const_cm_ok : MuOk Tryz.prog base 25 (cmdM constF) := by
 refine cmd_of_vc Tco_ok low25 fun kd l b c k H hF hk => ?_
 unfold constF at hF
 split at hF
 case isFalse => cases hF
 rename_i hc
 obtain ⟨rfl, hsz⟩ := hc
 have hF' := Option.some.inj hF
 clear hF
 refine ⟨by simp [lf25], ?_⟩
 have hkl : k < H.length := (List.getElem?_eq_some_iff.1 hk).1
 have hk' := hk
 simp only [newE, newC] at hk'
 have hbad : ∀ l : List (Tr Wd), (((encL l).length : Int) == 2) = false → ∀ b c, (false, c0 zW 5) = (b, c) → vc Tco lf25.body (ownZ base Tco lf25.results (.p (.bool b)) (H.set k (cmdE c))) (initFr [.optr k 0 0 0, .p (.lst (encL l))]) H := fun l hl b c h => by
  cases h
  simp [lf25, hk']
  rw [vc_regionW]
  refine ⟨[], ?_⟩
  simp [hl, ownZ]
  exact cmd_set hkl (fun _ => rfl) (fun _ => rfl)
 match l with
 | [] => exact hbad _ (by rfl) _ _ hF'
 | [a] => exact hbad _ (by rfl) _ _ hF'
 | a :: d :: e :: l => exact hbad _ (by rw [encL_len]; simp; omega) _ _ hF'
 | [a, r] =>
  cases hF'
  obtain ⟨ab, ak, as_, aa, avs, aen⟩ := encT_shape a
  obtain ⟨rb, rk, rs, ra, rvs, ren⟩ := encT_shape r
  have ho : funO [.optr k 0 0 0, .own H.length 0 3 0] (H.set k (newE 5) ++ [rowE 0 false [.p (encT a), listA, .p (encT r)]]) = some (.p (.bool (sb a && sb r)), (H.set k (newE 5) ++ [rowE 0 false [.p (encT a), listA, .p (encT r)]]).set k (cmdE (twoC a r))) := by
   have e1 : (H.set k (newE 5) ++ [rowE 0 false [.p (encT a), listA, .p (encT r)]])[H.length]? = some (rowE 0 false [.p (encT a), listA, .p (encT r)]) := by
    rw [List.getElem?_append_right (by simp)]; simp
   have e2 : (H.set k (newE 5) ++ [rowE 0 false [.p (encT a), listA, .p (encT r)]])[k]? = some (newE (5 : Nat)) := by
    rw [List.getElem?_append_left (by simpa using hkl), List.getElem?_set_self hkl]; rfl
   simp only [funO, e1, e2, isTri_tri, isNew_new]
   rw [if_neg (by omega), if_pos trivial]
  simp only [newE, newC, rowE, listA] at ho
  rw [aen, ren] at ho
  simp [lf25, encL, aen, ren, hk']
  rw [vc_regionW]
  refine ⟨[], ?_⟩
  simp [fillS, fillA, ho, ownZ]
  exact ⟨_, by rw [List.set_append_left _ _ (by simpa using hkl), List.set_set]; exact HSeen.refl _⟩
def oneM (k : Nat) (f : Tr Wd → Bool × Cmd Wd) : List (Tr Wd) → Bool × Cmd Wd
 | [a] => f a
 | _ => (false, c0 zW k)
def restM (kd : Nat) (l : List (Tr Wd)) : Bool × Cmd Wd :=
 if kd = 1 then oneM 1 (fun a => (sb a, { c0 zW 1 with name := sy a })) l
 else if kd = 2 ∨ kd = 3 then orF (setB key zW kd l) kd
 else if kd = 4 then orF (sortB key zW l) 4
 else if kd = 5 then funM l
 else if kd = 6 then defM l
 else if kd = 7 then oneM 7 (fun a => (true, { c0 zW 7 with term := a })) l
 else if kd = 8 ∨ kd = 9 then ((levM l).2, { c0 zW kd with n := (levM l).1 })
 else if kd = 12 then orF (valB zW l) 12
 else if kd = 13 then oneM 13 (fun a => (isK key 7 a, { c0 zW 13 with name := txtT key a })) l
 else (l.isEmpty, c0 zW kd)
def restF : CmdF := fun kd l => if 1 ≤ kd ∧ kd ≤ 15 ∧ sizeL l ≤ 1000000 then some (restM kd l) else none
def Trs : Tab := (((((((((Tab.none.with 45 (pureS sIs)).with 52 (pureS sCopy)).with 22 (pureS sSym)).own 49 (cmdM setF)).own 50 (cmdM sortF)).own 48 (cmdM funF)).own 51 (cmdM defF)).own 53 (cmdM levF)).own 54 (cmdM valF))
theorem Trs_ok : TabOk Tryz.prog base Trs := Tab.own_ok (Tab.own_ok (Tab.own_ok (Tab.own_ok (Tab.own_ok (Tab.own_ok (Tab.with_ok (Tab.with_ok (Tab.with_ok Tab.none_ok is_ok) copy_ok) symbol_ok) set_cm_ok) sort_cm_ok) fun_cm_ok) def_cm_ok) lev_cm_ok) val_cm_ok
theorem Trs_1 : Trs.fn 45 = pureS sIs := (rfl)
theorem Trs_2 : Trs.fn 52 = pureS sCopy := (rfl)
theorem Trs_3 : Trs.fn 22 = pureS sSym := (rfl)
theorem Trs_4 : Trs.mu 49 = cmdM setF := (rfl)
theorem Trs_5 : Trs.mu 50 = cmdM sortF := (rfl)
theorem Trs_6 : Trs.mu 48 = cmdM funF := (rfl)
theorem Trs_7 : Trs.mu 51 = cmdM defF := (rfl)
theorem Trs_8 : Trs.mu 53 = cmdM levF := (rfl)
theorem Trs_9 : Trs.mu 54 = cmdM valF := (rfl)
theorem Trs_a (a : List AVal) (H : Heap) : Trs.mu 45 a H = none := (rfl)
theorem Trs_b (a : List AVal) (H : Heap) : Trs.mu 52 a H = none := (rfl)
theorem Trs_c (a : List AVal) (H : Heap) : Trs.mu 22 a H = none := (rfl)
attribute [local simp] Trs_1 Trs_2 Trs_3 Trs_4 Trs_5 Trs_6 Trs_7 Trs_8 Trs_9 Trs_a Trs_b Trs_c
theorem rest_cm_ok : MuOk Tryz.prog base 26 (cmdM restF) := by
 refine cmd_of_vc Trs_ok low26 fun kd l b c k H hF hk => ?_
 unfold restF at hF
 split at hF
 case isFalse => cases hF
 rename_i hc
 obtain ⟨hk1, hk2, hsz⟩ := hc
 have hF' := Option.some.inj hF
 clear hF
 refine ⟨by simp [lf26], ?_⟩
 have hkl : k < H.length := (List.getElem?_eq_some_iff.1 hk).1
 have hk' := hk
 simp only [newE, newC] at hk'
 have hne := new_end (base := base) hk
 have hsame : ∀ c : Cmd Wd, ∃ E, HSeen base (H.set k (cmdE c)) (H.set k (cmdE c) ++ E) := fun c => ⟨[], by rw [List.append_nil]; exact HSeen.refl _⟩
 have ne_len : ∀ l : List (Tr Wd), (∀ a, l ≠ [a]) → (((encL l).length : Int) == 1) = false := fun l h => by
  match l with
  | [] => rfl
  | [a] => exact absurd rfl (h a)
  | _ :: _ :: _ => rw [encL_len]; simp; omega
 have hk15 : kd = 1 ∨ kd = 2 ∨ kd = 3 ∨ kd = 4 ∨ kd = 5 ∨ kd = 6 ∨ kd = 7 ∨ kd = 8 ∨ kd = 9 ∨ kd = 10 ∨ kd = 11 ∨ kd = 12 ∨ kd = 13 ∨ kd = 14 ∨ kd = 15 := by omega
 rcases hk15 with rfl | rfl | rfl | rfl | rfl | rfl | rfl | rfl | rfl | rfl | rfl | rfl | rfl | rfl | rfl
 · -- set-logic
  have e : restM 1 l = oneM 1 (fun a => (sb a, { c0 zW 1 with name := sy a })) l := rfl
  rw [e] at hF'
  by_cases h1 : ∃ a, l = [a]
  ·obtain ⟨a, rfl⟩ := h1
   cases hF'
   have hs := sSym_at a
   obtain ⟨ab, ak, as_, aa, avs, aen⟩ := encT_shape a
   rw [aen] at hs
   simp [lf26, encL, aen, hs, hk', ownZ]
   exact cmd_set hkl (fun _ => rfl) (fun _ => rfl)
  ·have hl := ne_len l fun a h => h1 ⟨a, h⟩
   have e2 : oneM 1 (fun a => (sb a, { c0 zW 1 with name := sy a })) l = (false, c0 zW 1) := by
    match l with
    | [] => rfl
    | [a] => exact absurd ⟨a, rfl⟩ h1
    | _ :: _ :: _ => rfl
   rw [e2] at hF'
   cases hF'
   simp [lf26, hl, hk', ownZ]
   exact hne
 ·have hm := cmdM_at (F := setF) (kd := 2) (l := l) (b := b) (c := c) hk (by rw [← hF']; exact if_pos ⟨by decide, hsz⟩)
  simp [lf26, hm, hk', ownZ]
  exact hsame c
 ·have hm := cmdM_at (F := setF) (kd := 3) (l := l) (b := b) (c := c) hk (by rw [← hF']; exact if_pos ⟨by decide, hsz⟩)
  simp [lf26, hm, hk', ownZ]
  exact hsame c
 ·have hm := cmdM_at (F := sortF) (kd := 4) (l := l) (b := b) (c := c) hk (by rw [← hF']; exact if_pos ⟨rfl, hsz⟩)
  simp [lf26, hm, hk', ownZ]
  exact hsame c
 ·have hm := cmdM_at (F := funF) (kd := 5) (l := l) (b := b) (c := c) hk (by rw [← hF']; exact if_pos ⟨rfl, hsz⟩)
  simp [lf26, hm, hk', ownZ]
  exact hsame c
 ·have hm := cmdM_at (F := defF) (kd := 6) (l := l) (b := b) (c := c) hk (by rw [← hF']; exact if_pos ⟨rfl, hsz⟩)
  simp [lf26, hm, hk', ownZ]
  exact hsame c
 · -- assert
  have e : restM 7 l = oneM 7 (fun a => (true, { c0 zW 7 with term := a })) l := rfl
  rw [e] at hF'
  by_cases h1 : ∃ a, l = [a]
  ·obtain ⟨a, rfl⟩ := h1
   cases hF'
   have hcp := sCopy_at (t := a) (by simp only [sizeL] at hsz; omega)
   obtain ⟨ab, ak, as_, aa, avs, aen⟩ := encT_shape a
   have ht := term_cells aen
   rw [aen] at hcp
   simp [lf26, encL, aen, hcp, hk', ownZ]
   exact cmd_set hkl (fun _ => by simp only [encC, ht]; rfl) (fun _ => rfl)
  ·have hl := ne_len l fun a h => h1 ⟨a, h⟩
   have e2 : oneM 7 (fun a => (true, { c0 zW 7 with term := a })) l = (false, c0 zW 7) := by
    match l with
    | [] => rfl
    | [a] => exact absurd ⟨a, rfl⟩ h1
    | _ :: _ :: _ => rfl
   rw [e2] at hF'
   cases hF'
   simp [lf26, hl, hk', ownZ]
   exact hne
 ·have hm := cmdM_at (F := levF) (kd := 8) (l := l) (b := b) (c := c) hk (by rw [← hF']; exact if_pos ⟨by decide, hsz⟩)
  simp [lf26, hm, hk', ownZ]
  exact hsame c
 ·have hm := cmdM_at (F := levF) (kd := 9) (l := l) (b := b) (c := c) hk (by rw [← hF']; exact if_pos ⟨by decide, hsz⟩)
  simp [lf26, hm, hk', ownZ]
  exact hsame c
 ·cases hF'
  have hl : (((encL l).length : Int) == 0) = l.isEmpty := by rw [encL_len]; cases l <;> simp <;> omega
  simp [lf26, hl, hk', ownZ]
  exact hne
 ·cases hF'
  have hl : (((encL l).length : Int) == 0) = l.isEmpty := by rw [encL_len]; cases l <;> simp <;> omega
  simp [lf26, hl, hk', ownZ]
  exact hne
 ·have hm := cmdM_at (F := valF) (kd := 12) (l := l) (b := b) (c := c) hk (by rw [← hF']; exact if_pos ⟨rfl, hsz⟩)
  simp [lf26, hm, hk', ownZ]
  exact hsame c
 · -- echo
  have e : restM 13 l = oneM 13 (fun a => (isK key 7 a, { c0 zW 13 with name := txtT key a })) l := rfl
  rw [e] at hF'
  by_cases h1 : ∃ a, l = [a]
  ·obtain ⟨a, rfl⟩ := h1
   cases hF'
   have hi := sIs_at a 7
   obtain ⟨ab, ak, aa, avs, aen⟩ := enc_txt a
   rw [aen] at hi
   simp [lf26, encL, aen, hi, hk', ownZ]
   exact cmd_set hkl (fun _ => rfl) (fun _ => rfl)
  ·have hl := ne_len l fun a h => h1 ⟨a, h⟩
   have e2 : oneM 13 (fun a => (isK key 7 a, { c0 zW 13 with name := txtT key a })) l = (false, c0 zW 13) := by
    match l with
    | [] => rfl
    | [a] => exact absurd ⟨a, rfl⟩ h1
    | _ :: _ :: _ => rfl
   rw [e2] at hF'
   cases hF'
   simp [lf26, hl, hk', ownZ]
   exact hne
 ·cases hF'
  have hl : (((encL l).length : Int) == 0) = l.isEmpty := by rw [encL_len]; cases l <;> simp <;> omega
  simp [lf26, hl, hk', ownZ]
  exact hne
 ·cases hF'
  have hl : (((encL l).length : Int) == 0) = l.isEmpty := by rw [encL_len]; cases l <;> simp <;> omega
  simp [lf26, hl, hk', ownZ]
  exact hne
end Go.Proofs.YtcbagnlidecmkaaGreatDoor

/-
 script.Parse: its contract.
-/
namespace Go.Proofs.YtcbagnlidecmkaaGreatDoor
open Go Go.Abs Go.Lex Go.Sexp
set_option maxRecDepth 20000
attribute [local simp] pureS touchV freezeL fuel shiftV
def got (q : Bool × Cmd Wd) : Option (Cmd Wd) := if q.1 = true then some q.2 else none
theorem got_or (o : Option (Cmd Wd)) (k : Nat) : got (orF o k) = o := by cases o <;> rfl
theorem syms_all : ∀ ks : List (Tr Wd), syms key ks = if ks.all sb = true then some (ks.map sy) else none
 | [] => rfl
 | t :: r => by
  have ih := syms_all r
  simp only [syms, ih, List.all_cons, List.map_cons]
  cases hs : symT key t with
  | none => rw [(sy_none hs).2]; rfl
  | some s =>
   rw [(sy_some hs).1, (sy_some hs).2]
   cases r.all sb <;> rfl
theorem fun_got (l : List (Tr Wd)) : got (funM l) = funB key zW l := by
 match l with
 | [] => rfl
 | [_] => rfl
 | [_, d] => cases d <;> rfl
 | _ :: d :: _ :: _ :: _ => cases d <;> rfl
 | [_, .leaf _, _] => rfl
 | [a, .list ks, r] =>
  simp only [funM, funB, syms_all]
  cases ha : symT key a with
  | none => rw [(sy_none ha).2]; rfl
  | some s =>
   rw [(sy_some ha).1, (sy_some ha).2]
   cases hr : symT key r with
   | none =>
    rw [(sy_none hr).2]
    cases ks.all sb <;> rfl
   | some q =>
    rw [(sy_some hr).1, (sy_some hr).2]
    cases hks : ks.all sb with
    | false => rfl
    | true =>
     simp only [got, Bool.and_self, if_true, List.map_map]
     rfl
theorem pars_M : ∀ (ks : List (Tr Wd)) (acc : List Par), pars key ks acc = if (parsM ks acc).1 = true then some (parsM ks acc).2 else none
 | [], acc => rfl
 | t :: r, acc => by
  by_cases h : ∃ a d, t = .list [a, d]
  ·obtain ⟨a, d, rfl⟩ := h
   have e0 : parsM (.list [a, d] :: r) acc = if (sb a && sb d && !(acc.map Prod.fst).contains (sy a)) = true then parsM r (acc ++ [(sy a, sy d)]) else (false, acc) := rfl
   cases ha : symT key a with
   | none =>
    have e : parsM (.list [a, d] :: r) acc = (false, acc) := by rw [e0, (sy_none ha).2]; rfl
    rw [e]
    simp only [pars, parT, ha]; rfl
   | some x =>
    cases hd : symT key d with
    | none =>
     have e : parsM (.list [a, d] :: r) acc = (false, acc) := by rw [e0, (sy_none hd).2, Bool.and_false]; rfl
     rw [e]
     simp only [pars, parT, ha, hd]; rfl
    | some y =>
     rw [(sy_some ha).1, (sy_some ha).2, (sy_some hd).1, (sy_some hd).2] at e0
     cases hc : (acc.map Prod.fst).contains x with
     | true =>
      have e : parsM (.list [a, d] :: r) acc = (false, acc) := by rw [e0, hc]; rfl
      rw [e]
      simp only [pars, parT, ha, hd, hc]; rfl
     | false =>
      have e : parsM (.list [a, d] :: r) acc = parsM r (acc ++ [(x, y)]) := by rw [e0, hc]; rfl
      rw [e]
      simp only [pars, parT, ha, hd, hc]
      exact pars_M r _
  ·rw [parsM_bad (fun a d e => h ⟨a, d, e⟩)]
   have : parT key t = none := by
    unfold parT
    split
    ·exact absurd ⟨_, _, rfl⟩ h
    ·rfl
   simp only [pars, this]; rfl
theorem def_got (l : List (Tr Wd)) : got (defM l) = defB key zW l := by
 match l with
 | [] => rfl
 | [_] => rfl
 | [_, d] => cases d <;> rfl
 | [_, d, _] => cases d <;> rfl
 | _ :: d :: _ :: _ :: _ :: _ => cases d <;> rfl
 | [_, .leaf _, _, _] => rfl
 | [a, .list ks, r, t] =>
  simp only [defM, defB, pars_M]
  cases hp : (parsM ks []).1 with
  | false =>
   simp only [Bool.false_eq_true, if_false]
   cases symT key a <;> rfl
  | true =>
   simp only [if_true]
   cases ha : symT key a with
   | none => rw [(sy_none ha).2]; rfl
   | some s =>
    rw [(sy_some ha).1, (sy_some ha).2]
    cases hr : symT key r with
    | none => rw [(sy_none hr).2]; rfl
    | some q => rw [(sy_some hr).1, (sy_some hr).2]; rfl
theorem lev_got (k : Nat) (l : List (Tr Wd)) : got ((levM l).2, { c0 zW k with n := (levM l).1 }) = levB key zW k l := by
 match l with
 | [] => rfl
 | _ :: _ :: _ => rfl
 | [a] =>
  simp only [levM, levB, numM_K]
  cases isK key 5 a with
  | false => rfl
  | true =>
   simp only [if_true]
   cases h : (numM (txtT key a)).2 with
   | false => simp [got, h]
   | true => simp [got, h]
theorem const_got (l : List (Tr Wd)) : got (constM l) = constB key zW l := by
 match l with
 | [] => rfl
 | [_] => rfl
 | _ :: _ :: _ :: _ => rfl
 | [a, r] =>
  simp only [constM, constB, funB]
  cases ha : symT key a with
  | none => rw [(sy_none ha).2]; rfl
  | some s =>
   cases hr : symT key r with
   | none => rw [(sy_some ha).2, (sy_none hr).2]; rfl
   | some q =>
    rw [(sy_some ha).2, (sy_some hr).2]
    simp only [got, twoC, (sy_some ha).1, (sy_some hr).1]
    rfl
theorem rest_got (kd : Nat) (h0 : 1 ≤ kd) (h1 : kd ≤ 15) (l : List (Tr Wd)) : got (restM kd l) = body key zW kd l := by
 unfold restM body
 by_cases e1 : kd = 1
 ·rw [if_pos e1, if_pos e1]
  match l with
  | [] => rfl
  | _ :: _ :: _ => rfl
  | [a] =>
   simp only [oneM]
   cases ha : symT key a with
   | none => rw [(sy_none ha).2]; rfl
   | some s => rw [(sy_some ha).1, (sy_some ha).2]; rfl
 rw [if_neg e1, if_neg e1]
 by_cases e2 : kd = 2 ∨ kd = 3
 ·rw [if_pos e2, if_pos e2]; exact got_or _ _
 rw [if_neg e2, if_neg e2]
 by_cases e4 : kd = 4
 ·rw [if_pos e4, if_pos e4]; exact got_or _ _
 rw [if_neg e4, if_neg e4]
 by_cases e5 : kd = 5
 ·rw [if_pos e5, if_pos e5]; exact fun_got l
 rw [if_neg e5, if_neg e5]
 by_cases e6 : kd = 6
 ·rw [if_pos e6, if_pos e6]; exact def_got l
 rw [if_neg e6, if_neg e6]
 by_cases e7 : kd = 7
 ·rw [if_pos e7, if_pos e7]
  match l with
  | [] => rfl
  | _ :: _ :: _ => rfl
  | [a] => rfl
 rw [if_neg e7, if_neg e7]
 by_cases e8 : kd = 8 ∨ kd = 9
 ·rw [if_pos e8, if_pos e8]; exact lev_got kd l
 rw [if_neg e8, if_neg e8]
 by_cases e12 : kd = 12
 ·rw [if_pos e12, if_pos e12]; exact got_or _ _
 rw [if_neg e12, if_neg e12]
 by_cases e13 : kd = 13
 ·rw [if_pos e13, if_pos e13]
  match l with
  | [] => rfl
  | _ :: _ :: _ => rfl
  | [a] =>
   simp only [oneM]
   cases isK key 7 a <;> rfl
 rw [if_neg e13, if_neg e13, if_pos (by omega)]
 match l with
 | [] => rfl
 | _ :: _ => rfl
def outC : Option (Cmd Wd) → PVal
 | some c => .tup [encC c, .int .i64 0]
 | none => .tup [encC (c0 zW 0), .int .i64 2]
def sParse : List PVal → Option PVal
 | [v] => match decT v with
  | some t => if t.size ≤ 1000000 then some (outC (parse key zW t)) else none
  | none => none
 | _ => none
def Tpa : Tab := ((((Tab.none.with 22 (pureS sSym)).with 24 (pureS sFieldsN)).with 23 (pureS sIndex)).own 25 (cmdM constF)).own 26 (cmdM restF)
theorem Tpa_ok : TabOk Tryz.prog base1 Tpa := Tab.own_ok (Tab.own_ok (Tab.with_ok (Tab.with_ok (Tab.with_ok Tab.none_ok symbol_ok) fieldsN_ok) index_ok) const_cm_ok) rest_cm_ok
theorem Tpa_1 : Tpa.fn 22 = pureS sSym := (rfl)
theorem Tpa_2 : Tpa.fn 24 = pureS sFieldsN := (rfl)
theorem Tpa_3 : Tpa.fn 23 = pureS sIndex := (rfl)
theorem Tpa_4 : Tpa.mu 25 = cmdM constF := (rfl)
theorem Tpa_5 : Tpa.mu 26 = cmdM restF := (rfl)
theorem Tpa_a (a : List AVal) (H : Heap) : Tpa.mu 22 a H = none := (rfl)
theorem Tpa_b (a : List AVal) (H : Heap) : Tpa.mu 24 a H = none := (rfl)
theorem Tpa_c (a : List AVal) (H : Heap) : Tpa.mu 23 a H = none := (rfl)
attribute [local simp] Tpa_1 Tpa_2 Tpa_3 Tpa_4 Tpa_5 Tpa_a Tpa_b Tpa_c
theorem fields_nm : sFieldsN [.str nmText] = some (.lst (nmList.map .str)) := by
 simp only [sFieldsN, if_pos]
theorem sizeOk_enc (l : List (Tr Wd)) : sizeOk 5 (encL l) = true := by
 unfold sizeOk
 rw [List.all_eq_true]
 intro u hu
 rw [encL_map] at hu
 obtain ⟨v, _, rfl⟩ := List.mem_map.1 hu
 obtain ⟨b, k, s, a, vs, hen⟩ := encT_shape v
 rw [hen]; rfl
theorem parse_ok : FnOk Tryz.prog base1 10 (pureS sParse) := by
 refine pure_of_vc hmix Tpa_ok globNone low10 fun args x hs hf => ?_
 unfold sParse at hs
 split at hs
 case h_2 => cases hs
 split at hs
 case h_2 => cases hs
 rename_i t hd
 split at hs
 case isFalse => cases hs
 rename_i hsz
 have := decT_some hd
 subst this
 cases hs
 refine ⟨by simp [lf10], ?_⟩
 have hz : encC (c0 zW 0) = .agg [.int .i64 0, .str [], .lst [], .str [], .bool false, .int .i64 0, .str [], .int .i64 0, .lst [], .lst [], .int .i64 0] := rfl
 match t with
 | .leaf w => simp [lf10, encT, parse, outC, hz, fillA]
 | .list [] => simp [lf10, encT, encL, parse, outC, hz, fillA]
 | .list (h :: l) =>
  have hs := sSym_at h
  have hsl : sizeL l ≤ 1000000 := by simp only [Tr.size, sizeL] at hsz; omega
  obtain ⟨ab, ak, as_, aa, avs, aen⟩ := encT_shape h
  rw [aen] at hs
  have hfn := fields_nm
  simp only [nmText] at hfn
  have hix := index_nm (sy h)
  have l1 : (((encL l).length : Int) + 1 == 0) = false := by simp; omega
  have l2 : (1 : Int) ≤ ((encL l).length : Int) + 1 := by omega
  have hso := sizeOk_enc (h :: l)
  simp only [encL, aen] at hso
  have hkl := kindOf_le (sy h)
  have w1 : IntKind.i64.wrap ((kindOf (sy h) : Int) - 1 + 1) = (kindOf (sy h) : Int) := by rw [Int.sub_add_cancel]; exact IntWalk.i64_in _ (by omega)
  cases hy : symT key h with
  | none =>
   have e1 := (sy_none hy).1
   have e2 := (sy_none hy).2
   have hp : parse key zW (.list (h :: l)) = none := by simp only [parse, hy]
   have hk0 : kindOf (sy h) = 0 := by rw [e1]; decide +kernel
   rw [e2] at hs
   rw [hk0] at hix w1
   rw [hp]
   simp at hix w1
   simp [lf10, encT, encL, aen, hs, hfn, hix, l1, w1, fillA, outC, hz]
  | some w =>
   have e1 := (sy_some hy).1
   have e2 := (sy_some hy).2
   rw [e2] at hs
   by_cases hc : w = declConst
   ·have hk0 : kindOf (sy h) = 0 := by rw [e1, hc]; decide +kernel
    have hp : parse key zW (.list (h :: l)) = got (constM l) := by simp only [parse, hy, if_pos hc, const_got]
    rw [hp]
    rcases hq : constM l with ⟨b, c⟩
    have hF : constF 0 l = some (b, c) := by rw [← hq]; exact if_pos ⟨rfl, hsl⟩
    have hmc : ∀ E0 E1 : Ent, cmdM constF [.optr 2 0 0 0, .p (.lst (encL l))] [E0, E1, newE 0] = some (.p (.bool b), [E0, E1, cmdE c]) := fun E0 E1 => cmdM_at (H := [E0, E1, newE 0]) (k := 2) (kd := 0) rfl hF
    simp only [newE, newC, cmdE] at hmc
    rw [hk0] at hix w1
    rw [e1, hc] at hs hix
    simp only [declConst] at hs hix
    simp at hix w1
    obtain ⟨tb, tk, ts, ta, tvs, ten⟩ := encT_shape c.term
    have hec : encC c = .agg [.int .i64 c.kind, .str c.name, .lst (c.params.map parP), .str c.result, .bool tb, .int .i64 tk, .str ts, .int .i64 ta, .lst tvs, .lst (encL c.terms), .int .i64 c.n] := by simp only [encC, term_cells ten]; rfl
    rw [hec] at hmc
    cases b with
    | true => simp [lf10, encT, encL, aen, hs, hfn, hix, l1, w1, l2, hso, fillA, hmc, got, outC, hec, binS]
    | false => simp [lf10, encT, encL, aen, hs, hfn, hix, l1, w1, l2, hso, fillA, hmc, got, outC, hz, binS]
   ·have hp : parse key zW (.list (h :: l)) = body key zW (kindOf w) l := by simp only [parse, hy, if_neg hc]
    have hcb : (sy h == declConst) = false := by rw [e1]; simpa using hc
    simp only [declConst] at hcb
    rw [hp]
    by_cases hk0 : kindOf w = 0
    ·have hb : body key zW 0 l = none := by simp [body]
     rw [hk0, hb]
     rw [e1, hk0] at hix w1
     rw [e1] at hs hcb
     simp at hix w1
     simp [lf10, encT, encL, aen, hs, hfn, hix, l1, w1, fillA, outC, hz, binS, hcb]
    ·rw [e1] at hkl hs hix w1 hcb
     rw [← rest_got (kindOf w) (by omega) hkl l]
     rcases hq : restM (kindOf w) l with ⟨b, c⟩
     have hF : restF (kindOf w) l = some (b, c) := by rw [← hq]; exact if_pos ⟨by omega, hkl, hsl⟩
     have hmc : ∀ E0 E1 : Ent, cmdM restF [.optr 2 0 0 0, .p (.lst (encL l))] [E0, E1, newE (kindOf w)] = some (.p (.bool b), [E0, E1, cmdE c]) := fun E0 E1 => cmdM_at (H := [E0, E1, newE (kindOf w)]) (k := 2) (kd := kindOf w) rfl hF
     simp only [newE, newC, cmdE] at hmc
     have hk0' : ((kindOf w : Int) == 0) = false := by simpa using hk0
     obtain ⟨tb, tk, ts, ta, tvs, ten⟩ := encT_shape c.term
     have hec : encC c = .agg [.int .i64 c.kind, .str c.name, .lst (c.params.map parP), .str c.result, .bool tb, .int .i64 tk, .str ts, .int .i64 ta, .lst tvs, .lst (encL c.terms), .int .i64 c.n] := by simp only [encC, term_cells ten]; rfl
     rw [hec] at hmc
     cases b with
     | true => simp [lf10, encT, encL, aen, hs, hfn, hix, l1, w1, l2, hso, fillA, hmc, got, outC, hec, binS, hcb, hk0', -Int.sub_add_cancel]
     | false => simp [lf10, encT, encL, aen, hs, hfn, hix, l1, w1, l2, hso, fillA, hmc, got, outC, hz, binS, hcb, hk0', -Int.sub_add_cancel]
theorem sParse_at {t : Tr Wd} (h : t.size ≤ 1000000) : sParse [encT t] = some (outC (parse key zW t)) := by
 simp only [sParse, decT_enc]
 rw [if_pos h]
end Go.Proofs.YtcbagnlidecmkaaGreatDoor
