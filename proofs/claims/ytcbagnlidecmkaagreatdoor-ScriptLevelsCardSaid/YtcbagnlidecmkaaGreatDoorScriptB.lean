/-
  What the methods of a command compute, part 1. No conditions beyond the lemmas' own hypotheses.
-/
import Derived.Test.YtcbagnlidecmkaaGreatDoorScriptA
import Derived.Test.YtcbagnlidecmkaaGreatDoorAbsFour
set_option linter.unusedSimpArgs false
set_option linter.unnecessarySimpa false
set_option linter.unusedVariables false
set_option linter.constructorNameAsVariable false

/-
 script: methods of commands: what they write.
-/
namespace Go.Proofs.YtcbagnlidecmkaaGreatDoor
open Go Go.Abs Go.Lex Go.Sexp
variable {base : Prot}
set_option maxRecDepth 20000
attribute [local simp] pureS touchV freezeL fuel shiftV
def zW : Wd := ⟨0, [], 0⟩
def termC : Tr Wd → List PVal
 | .leaf w => [.bool false, .int .i64 w.kind, .str w.text, .int .i64 w.at_, .lst []]
 | .list l => [.bool true, .int .i64 0, .str [], .int .i64 0, .lst (encL l)]
theorem termC_enc (t : Tr Wd) : encT t = .agg (termC t) := by cases t <;> rfl
def encC (c : Cmd Wd) : PVal := .agg ([.int .i64 c.kind, .str c.name, .lst (c.params.map parP), .str c.result] ++ termC c.term ++ [.lst (encL c.terms), .int .i64 c.n])
def cmdE (c : Cmd Wd) : Ent := ⟨11, 0, false, [.p (encC c)], 31⟩
def newC (kd : Int) : AVal := .agg [.p (.int .i64 kd), .p (.str []), .tight [], .p (.str []), .p (.bool false), .p (.int .i64 0), .p (.str []), .p (.int .i64 0), .tight [], .tight [], .p (.int .i64 0)]
def newE (kd : Int) : Ent := ⟨11, 0, false, [newC kd], 31⟩
def isNew : Ent → Option Nat
 | ⟨11, 0, false, [.agg [.p (.int .i64 kd), .p (.str []), .tight [], .p (.str []), .p (.bool false), .p (.int .i64 0), .p (.str []), .p (.int .i64 0), .tight [], .tight [], .p (.int .i64 0)]], t⟩ => if t = 31 ∧ 0 ≤ kd then some kd.toNat else none
 | _ => none
theorem isNew_some {e : Ent} {k : Nat} (h : isNew e = some k) : e = newE k := by
 unfold isNew at h
 split at h
 ·split at h
  ·rename_i hc
   cases h
   obtain ⟨rfl, h0⟩ := hc
   simp only [newE, newC, Int.toNat_of_nonneg h0]
  ·cases h
 ·cases h
theorem isNew_new (k : Nat) : isNew (newE k) = some k := by
 simp only [newE, newC, isNew]
 rw [if_pos ⟨trivial, Int.natCast_nonneg k⟩, Int.toNat_natCast]
abbrev CmdF := Nat → List (Tr Wd) → Option (Bool × Cmd Wd)
def cmdM (F : CmdF) : List AVal → Heap → Option (AVal × Heap)
 | [.optr k 0 0 0, .p (.lst vs)], H => match decTL vs, H[k]? with
  | some l, some e => match isNew e with
   | some kd => match F kd l with
    | some (b, c) => some (.p (.bool b), H.set k (cmdE c))
    | none => none
   | none => none
  | _, _ => none
 | _, _ => none
theorem cmdM_at {F : CmdF} {k kd : Nat} {H : Heap} {l : List (Tr Wd)} {b : Bool} {c : Cmd Wd} (hk : H[k]? = some (newE kd)) (hF : F kd l = some (b, c)) : cmdM F [.optr k 0 0 0, .p (.lst (encL l))] H = some (.p (.bool b), H.set k (cmdE c)) := by
 simp only [cmdM, decL_enc, hk, isNew_new, hF]
theorem belowSet {H : Heap} {k : Nat} {c : Cmd Wd} (h : BelowH H.length H) : BelowH H.length (H.set k (cmdE c)) := by
 intro e he x hx y hy
 rcases List.mem_or_eq_of_mem_set he with he | rfl
 ·exact h e he x hx y hy
 ·have hx' : x = .p (encC c) := by simpa [cmdE] using hx
  subst hx'
  have hy' : y ∈ (encC c).cells.map AVal.p := hy
  obtain ⟨z, _, rfl⟩ := List.mem_map.1 hy'
  exact .p _
theorem cmd_of_vc {T : Tab} (hT : TabOk Tryz.prog base T) {f : FuncId} {lf : LFunc} (hl : lowFunc Tryz.prog gl0 f = some lf) {F : CmdF}
  (h : ∀ kd l b c k (H : Heap), F kd l = some (b, c) → H[k]? = some (newE kd) → 2 ≤ lf.n ∧ vc T lf.body (ownZ base T lf.results (.p (.bool b)) (H.set k (cmdE c))) (initFr [.optr k 0 0 0, .p (.lst (encL l))]) H) : MuOk Tryz.prog base f (cmdM F) := by
 refine own_of_vcZ hmix hT globNone hl fun args H r H' hs hf hb => ?_
 unfold cmdM at hs
 split at hs
 case h_2 => cases hs
 rename_i k vs
 split at hs
 case h_2 => cases hs
 rename_i l e hd hk
 split at hs
 case h_2 => cases hs
 rename_i kd hn
 split at hs
 case h_2 => cases hs
 rename_i b c hF
 cases hs
 have := decL_some hd
 subst this
 have := isNew_some hn
 subst this
 obtain ⟨h1, h2⟩ := h kd l b c k H hF hk
 exact ⟨by simpa using h1, by simp, belowSet hb, .p _, h2⟩
def orF (o : Option (Cmd Wd)) (k : Nat) : Bool × Cmd Wd := (o.isSome, o.getD (c0 zW k))
def setF : CmdF := fun kd l => if (kd = 2 ∨ kd = 3) ∧ sizeL l ≤ 1000000 then some (orF (setB key zW kd l) kd) else none
def Tms : Tab := (Tab.none.with 45 (pureS sIs)).with 52 (pureS sCopy)
theorem Tms_ok : TabOk Tryz.prog base Tms := Tab.with_ok (Tab.with_ok Tab.none_ok is_ok) copy_ok
theorem Tms_mu (f : FuncId) (a : List AVal) (H : Heap) : Tms.mu f a H = none := (rfl)
theorem Tms_1 : Tms.fn 45 = pureS sIs := (rfl)
theorem Tms_2 : Tms.fn 52 = pureS sCopy := (rfl)
attribute [local simp] Tms_mu Tms_1 Tms_2
theorem new_end {H : Heap} {k : Nat} {kd : Nat} (hk : H[k]? = some (newE kd)) : ∃ E, HSeen base H (H.set k (cmdE (c0 zW kd)) ++ E) :=
 HSeen.one (List.getElem?_eq_some_iff.1 hk).1 hk rfl (fun _ _ _ => rfl) (fun _ h => by cases h)
theorem cmd_set {H : Heap} {k : Nat} {v : AVal} {c : Cmd Wd} (hk : k < H.length) (hx : ∀ H', resolveV H' fuel v = some (encC c)) (ht : ∀ H', touchV H' fuel v = []) : ∃ E, HSeen base (H.set k ⟨11, 0, false, [v], 31⟩) (H.set k (cmdE c) ++ E) := by
 refine HSeen.one hk (List.getElem?_set_self hk) (hx _) (fun j _ hj => List.getElem?_set_ne (Ne.symm hj)) (fun l hl => ?_)
 rw [ht] at hl; cases hl
theorem set_cm_ok : MuOk Tryz.prog base 49 (cmdM setF) := by
 refine cmd_of_vc Tms_ok low49 fun kd l b c k H hF hk => ?_
 unfold setF at hF
 split at hF
 case isFalse => cases hF
 rename_i hc
 obtain ⟨hkd, hsz⟩ := hc
 have hF' := Option.some.inj hF
 clear hF
 refine ⟨by simp [lf49], ?_⟩
 have hkl : k < H.length := (List.getElem?_eq_some_iff.1 hk).1
 have hk' := hk
 simp only [newE, newC] at hk'
 have hne := new_end (base := base) hk
 match l with
 | [] =>
  cases hF'
  simp [lf49, encL, ownZ, setB]
  exact hne
 | [a] =>
  have hi := sIs_at a 4
  cases a with
  | list ks =>
   cases hF'
   simp only [encT] at hi
   simp [lf49, encL, encT, hi, isK, ownZ, setB]
   exact hne
  | leaf w =>
   simp only [encT] at hi
   by_cases h4 : w.kind = 4
   ·have e1 : isK key 4 (.leaf w) = true := by simp [isK, Lex.key, h4]
    rw [e1] at hi
    rcases hkd with rfl | rfl
    ·have e2 : setB key zW 2 [.leaf w] = none := by simp [setB]
     rw [e2] at hF'
     cases hF'
     simp [lf49, encL, encT, hi, hk', ownZ]
     exact hne
    ·have e2 : setB key zW 3 [.leaf w] = some { c0 zW 3 with name := w.text } := by simp only [setB, e1]; rfl
     rw [e2] at hF'
     cases hF'
     simp [lf49, encL, encT, hi, hk', ownZ]
     exact cmd_set hkl (fun _ => rfl) (fun _ => rfl)
   ·have e1 : isK key 4 (.leaf w) = false := by simp [isK, Lex.key, h4]
    have e2 : setB key zW kd [.leaf w] = none := by simp [setB, e1]
    rw [e1] at hi
    rw [e2] at hF'
    cases hF'
    simp [lf49, encL, encT, hi, ownZ]
    exact hne
 | [a, b'] =>
  have hi := sIs_at a 4
  have hcp := sCopy_at (t := b') (by simp only [sizeL] at hsz; omega)
  cases a with
  | list ks =>
   cases hF'
   simp only [encT] at hi
   simp [lf49, encL, encT, hi, isK, ownZ, setB]
   exact hne
  | leaf w =>
   simp only [encT] at hi
   by_cases h4 : w.kind = 4
   ·have e1 : isK key 4 (.leaf w) = true := by simp [isK, Lex.key, h4]
    rw [e1] at hi
    have e2 : setB key zW kd [.leaf w, b'] = some { c0 zW kd with name := w.text, term := b' } := by simp only [setB, e1]; rfl
    rw [e2] at hF'
    cases hF'
    obtain ⟨tb, tk, ts, ta, tvs, ten⟩ := encT_shape b'
    have ht : termC b' = [.bool tb, .int .i64 tk, .str ts, .int .i64 ta, .lst tvs] := by
     have := termC_enc b'
     rw [ten] at this
     exact (PVal.agg.inj this).symm
    rw [ten] at hcp
    have gs : ∀ e : Ent, (H.set k e)[k]? = some e := fun e => List.getElem?_set_self hkl
    simp [lf49, encL, encT, ten, hi, hcp, hk', gs, ownZ]
    exact cmd_set hkl (fun _ => by simp only [encC, ht]; rfl) (fun _ => rfl)
   ·have e1 : isK key 4 (.leaf w) = false := by simp [isK, Lex.key, h4]
    have e2 : setB key zW kd [.leaf w, b'] = none := by simp [setB, e1]
    rw [e1] at hi
    rw [e2] at hF'
    cases hF'
    simp [lf49, encL, encT, hi, ownZ]
    exact hne
 | _ :: _ :: _ :: r =>
  cases hF'
  have l1 : decide (((encL r).length : Int) + 1 + 1 + 1 < 1) = false := decide_eq_false (by omega)
  have l2 : decide ((2 : Int) < ((encL r).length : Int) + 1 + 1 + 1) = true := decide_eq_true (by omega)
  simp [lf49, encL, ownZ, setB, l1, l2]
  exact hne
end Go.Proofs.YtcbagnlidecmkaaGreatDoor

/-
 script: methods of commands: sorts, levels, values.
-/
namespace Go.Proofs.YtcbagnlidecmkaaGreatDoor
open Go Go.Abs Go.Lex Go.Sexp
variable {base : Prot}
set_option maxRecDepth 20000
attribute [local simp] pureS touchV freezeL fuel shiftV
theorem term_cells {t : Tr Wd} {tb : Bool} {tk : Int} {ts : List UInt8} {ta : Int} {tvs : List PVal} (h : encT t = .agg [.bool tb, .int .i64 tk, .str ts, .int .i64 ta, .lst tvs]) : termC t = [.bool tb, .int .i64 tk, .str ts, .int .i64 ta, .lst tvs] := by
 rw [termC_enc] at h
 exact PVal.agg.inj h
theorem enc_txt (t : Tr Wd) : ∃ b k a l, encT t = .agg [.bool b, .int .i64 k, .str (txtT key t), .int .i64 a, .lst l] := by
 cases t with
 | leaf w => exact ⟨_, _, _, _, rfl⟩
 | list l => exact ⟨_, _, _, _, rfl⟩
def Tmt : Tab := ((((Tab.none.with 45 (pureS sIs)).with 52 (pureS sCopy)).with 22 (pureS sSym)).with 68 (pureS sNum))
theorem Tmt_ok : TabOk Tryz.prog base Tmt := Tab.with_ok (Tab.with_ok (Tab.with_ok (Tab.with_ok Tab.none_ok is_ok) copy_ok) symbol_ok) number_ok
theorem Tmt_mu (f : FuncId) (a : List AVal) (H : Heap) : Tmt.mu f a H = none := (rfl)
theorem Tmt_1 : Tmt.fn 45 = pureS sIs := (rfl)
theorem Tmt_2 : Tmt.fn 52 = pureS sCopy := (rfl)
theorem Tmt_3 : Tmt.fn 22 = pureS sSym := (rfl)
theorem Tmt_4 : Tmt.fn 68 = pureS sNum := (rfl)
attribute [local simp] Tmt_mu Tmt_1 Tmt_2 Tmt_3 Tmt_4
def sortF : CmdF := fun kd l => if kd = 4 ∧ sizeL l ≤ 1000000 then some (orF (sortB key zW l) 4) else none
theorem sy_some {t : Tr Wd} {s : List UInt8} (h : symT key t = some s) : sy t = s ∧ sb t = true := by simp [sy, sb, h]
theorem sy_none {t : Tr Wd} (h : symT key t = none) : sy t = [] ∧ sb t = false := by simp [sy, sb, h]
theorem sort_cm_ok : MuOk Tryz.prog base 50 (cmdM sortF) := by
 refine cmd_of_vc Tmt_ok low50 fun kd l b c k H hF hk => ?_
 unfold sortF at hF
 split at hF
 case isFalse => cases hF
 rename_i hc
 obtain ⟨rfl, hsz⟩ := hc
 have hF' := Option.some.inj hF
 clear hF
 refine ⟨by simp [lf50], ?_⟩
 have hkl : k < H.length := (List.getElem?_eq_some_iff.1 hk).1
 have hk' := hk
 simp only [newE, newC] at hk'
 have hne := new_end (base := base) hk
 have fin : ∀ a : Tr Wd, (∃ E, HSeen base (H.set k ⟨11, 0, false, [.agg [.p (.int .i64 4), .p (.str (sy a)), .tight [], .p (.str []), .p (.bool false), .p (.int .i64 0), .p (.str []), .p (.int .i64 0), .tight [], .tight [], .p (.int .i64 0)]], 31⟩) (H.set k (cmdE (((symT key a).map fun s => { c0 zW 4 with name := s }).getD (c0 zW 4))) ++ E)) := fun a => by
  cases hs : symT key a with
  | none => rw [(sy_none hs).1]; exact cmd_set hkl (fun _ => rfl) (fun _ => rfl)
  | some s => rw [(sy_some hs).1]; exact cmd_set hkl (fun _ => rfl) (fun _ => rfl)
 match l with
 | [] =>
  cases hF'
  simp [lf50, encL, ownZ, sortB]
  exact hne
 | [a] =>
  have hs := sSym_at a
  have e1 : sortB key zW [a] = (symT key a).map fun s => { c0 zW 4 with name := s } := rfl
  rw [e1] at hF'
  have hb : b = sb a := by
   have h := congrArg Prod.fst hF'
   simp only [orF] at h
   rw [← h]; unfold sb; cases symT key a <;> rfl
  have hcc := (congrArg Prod.snd hF').symm
  obtain ⟨tb, tk, ts, ta, tvs, ten⟩ := encT_shape a
  rw [ten] at hs
  simp [lf50, encL, ten, hs, hk', ownZ]
  exact ⟨hb.symm, by dsimp only at hcc; rw [hcc]; exact fin a⟩
 | [a, d] =>
  have hs := sSym_at a
  have hi := sIs_at d 5
  have hn : sNum [.str (txtT key d)] = some (.tup [.int .i64 (numM (txtT key d)).1, .bool (numM (txtT key d)).2]) := rfl
  have hK := numM_K (txtT key d)
  obtain ⟨tb, tk, ts, ta, tvs, ten⟩ := encT_shape a
  obtain ⟨ub, uk, ua, uvs, uen⟩ := enc_txt d
  rw [ten] at hs
  rw [uen] at hi
  have e1 : sortB key zW [a, d] = if isK key 5 d = true ∧ numK (txtT key d) = some 0 then (symT key a).map (fun s => { c0 zW 4 with name := s }) else none := rfl
  rw [e1, hK] at hF'
  generalize hq : numM (txtT key d) = q at hn hF'
  obtain ⟨n, ok⟩ := q
  cases hk5 : isK key 5 d with
  | false =>
   rw [hk5] at hi hF'
   simp at hF'
   cases hF'
   simp [lf50, encL, ten, uen, hi, hn, ownZ]
   exact hne
  | true =>
   rw [hk5] at hi hF'
   cases ok with
   | false =>
    simp at hF'
    cases hF'
    simp [lf50, encL, ten, uen, hi, hn, ownZ]
    exact hne
   | true =>
    by_cases h0 : n = 0
    ·subst h0
     simp only [if_true, true_and] at hF'
     have hb : b = sb a := by
      have h := congrArg Prod.fst hF'
      simp only [orF] at h
      rw [← h]; unfold sb; cases symT key a <;> rfl
     have hcc := (congrArg Prod.snd hF').symm
     simp [lf50, encL, ten, uen, hi, hn, hs, hk', ownZ]
     exact ⟨hb.symm, by dsimp only at hcc; rw [hcc]; exact fin a⟩
    ·have h0' : ((n : Int) != 0) = true := by simp; exact h0
     have h0'' : ¬ (some n = some 0) := by simpa using h0
     simp only [if_true, true_and, if_neg h0''] at hF'
     cases hF'
     simp [lf50, encL, ten, uen, hi, hn, h0', h0, ownZ]
     exact hne
 | _ :: _ :: _ :: r =>
  cases hF'
  have l1 : decide (((encL r).length : Int) + 1 + 1 + 1 < 1) = false := decide_eq_false (by omega)
  have l2 : decide ((2 : Int) < ((encL r).length : Int) + 1 + 1 + 1) = true := decide_eq_true (by omega)
  simp [lf50, encL, ownZ, sortB, l1, l2]
  exact hne
def levM (l : List (Tr Wd)) : Nat × Bool := match l with
 | [] => (1, true)
 | [a] => if isK key 5 a = true then numM (txtT key a) else (1, false)
 | _ => (1, false)
def levF : CmdF := fun kd l => if (kd = 8 ∨ kd = 9) ∧ sizeL l ≤ 1000000 then some ((levM l).2, { c0 zW kd with n := (levM l).1 }) else none
theorem lev_cm_ok : MuOk Tryz.prog base 53 (cmdM levF) := by
 refine cmd_of_vc Tmt_ok low53 fun kd l b c k H hF hk => ?_
 unfold levF at hF
 split at hF
 case isFalse => cases hF
 rename_i hc
 obtain ⟨hkd, hsz⟩ := hc
 have hF' := Option.some.inj hF
 clear hF
 cases hF'
 refine ⟨by simp [lf53], ?_⟩
 have hkl : k < H.length := (List.getElem?_eq_some_iff.1 hk).1
 have hk' := hk
 simp only [newE, newC] at hk'
 have gs : ∀ e : Ent, (H.set k e)[k]? = some e := fun e => List.getElem?_set_self hkl
 match l with
 | [] =>
  simp [lf53, encL, hk', ownZ, levM]
  exact cmd_set hkl (fun _ => rfl) (fun _ => rfl)
 | [a] =>
  have hi := sIs_at a 5
  have hn : sNum [.str (txtT key a)] = some (.tup [.int .i64 (numM (txtT key a)).1, .bool (numM (txtT key a)).2]) := rfl
  obtain ⟨ub, uk, ua, uvs, uen⟩ := enc_txt a
  rw [uen] at hi
  cases hk5 : isK key 5 a with
  | false =>
   have e1 : levM [a] = (1, false) := by simp [levM, hk5]
   rw [hk5] at hi
   rw [e1]
   simp [lf53, encL, uen, hi, hk', gs, ownZ]
   exact cmd_set hkl (fun _ => rfl) (fun _ => rfl)
  | true =>
   have e1 : levM [a] = numM (txtT key a) := by simp [levM, hk5]
   rw [hk5] at hi
   rw [e1]
   generalize numM (txtT key a) = q at hn
   obtain ⟨n, ok⟩ := q
   simp [lf53, encL, uen, hi, hn, hk', gs, ownZ]
   exact cmd_set hkl (fun _ => rfl) (fun _ => rfl)
 | _ :: _ :: r =>
  have l1 : (((encL r).length : Int) + 1 + 1 == 0) = false := by simp; omega
  have l2 : decide ((1 : Int) < ((encL r).length : Int) + 1 + 1) = true := decide_eq_true (by omega)
  simp [lf53, encL, hk', ownZ, levM, l1, l2]
  exact cmd_set hkl (fun _ => rfl) (fun _ => rfl)
def valF : CmdF := fun kd l => if kd = 12 ∧ sizeL l ≤ 1000000 then some (orF (valB zW l) 12) else none
theorem val_cm_ok : MuOk Tryz.prog base 54 (cmdM valF) := by
 refine cmd_of_vc Tmt_ok low54 fun kd l b c k H hF hk => ?_
 unfold valF at hF
 split at hF
 case isFalse => cases hF
 rename_i hc
 obtain ⟨rfl, hsz⟩ := hc
 have hF' := Option.some.inj hF
 clear hF
 refine ⟨by simp [lf54], ?_⟩
 have hkl : k < H.length := (List.getElem?_eq_some_iff.1 hk).1
 have hk' := hk
 simp only [newE, newC] at hk'
 have hne := new_end (base := base) hk
 match l with
 | [] =>
  cases hF'
  simp [lf54, encL, ownZ, valB]
  exact hne
 | [.leaf w] =>
  cases hF'
  simp [lf54, encL, encT, ownZ, valB]
  exact hne
 | [.list []] =>
  cases hF'
  simp [lf54, encL, encT, ownZ, valB]
  exact hne
 | [.list (t :: r)] =>
  have hcp := sCopy_at (t := .list (t :: r)) (by simp only [sizeL] at hsz; omega)
  simp only [encT, encL] at hcp
  have e1 : valB zW [.list (t :: r)] = some { c0 zW 12 with terms := t :: r } := rfl
  rw [e1] at hF'
  cases hF'
  have l1 : (((encL r).length : Int) + 1 == 0) = false := by simp; omega
  simp [lf54, encL, encT, hcp, hk', ownZ, l1]
  exact cmd_set hkl (fun _ => rfl) (fun _ => rfl)
 | t :: t2 :: r =>
  have e1 : valB zW (t :: t2 :: r) = none := by
   cases t with
   | leaf w => rfl
   | list l => cases l <;> rfl
  rw [e1] at hF'
  cases hF'
  have l1 : (((encL r).length : Int) + 1 + 1 != 1) = true := by simp; omega
  simp [lf54, encL, ownZ, l1]
  exact hne
end Go.Proofs.YtcbagnlidecmkaaGreatDoor

/-
 script: methods of commands: functions and definitions.
-/
namespace Go.Proofs.YtcbagnlidecmkaaGreatDoor
open Go Go.Abs Go.Lex Go.Sexp
variable {base : Prot}
set_option maxRecDepth 20000
attribute [local simp] pureS touchV freezeL fuel shiftV
attribute [local simp] Tmt_mu Tmt_1 Tmt_2 Tmt_3 Tmt_4
def parE (ver : Nat) (fz : Bool) (l : List Par) : Ent := ⟨2, ver, fz, l.map (fun q => .p (parP q)), 49⟩
def OutP (N : Nat) (x : AVal) (H : Heap) (l : List Par) : Prop := (x = .tight [] ∧ l = []) ∨ ∃ j ver fz, N ≤ j ∧ x = .own j 0 l.length ver ∧ H[j]? = some (parE ver fz l)
theorem OutP.keep {N : Nat} {x : AVal} {H H' : Heap} {l : List Par} (h : OutP N x H l) (hH : ∀ j, j < H.length → N ≤ j → H'[j]? = H[j]?) : OutP N x H' l := by
 rcases h with h | ⟨j, ver, fz, h0, h1, h2⟩
 ·exact .inl h
 ·exact .inr ⟨j, ver, fz, h0, h1, by rw [hH _ (List.getElem?_eq_some_iff.1 h2).1 h0]; exact h2⟩
theorem OutP.app {N : Nat} {x : AVal} {H : Heap} {l : List Par} (h : OutP N x H l) (hN : N ≤ H.length) (hl : l.length < 1000000) (q : Par) : ∃ x' H', appV 2 32 49 x [.p (.agg [.str q.1, .str q.2])] H = some (x', H') ∧ OutP N x' H' (l ++ [q]) ∧ H.length ≤ H'.length ∧ ∀ i, i < N → H'[i]? = H[i]? := by
 rcases h with ⟨rfl, rfl⟩ | ⟨j, ver, fz, h0, rfl, h2⟩
 ·exact ⟨.own H.length 0 1 0, H ++ [parE 0 false [q]], by simp [appV, parE, parP, maxLen], .inr ⟨H.length, 0, false, hN, rfl, by simp⟩, by simp, fun i hi => List.getElem?_append_left (by omega)⟩
 ·have hj := (List.getElem?_eq_some_iff.1 h2).1
  have m1 : (l.length + 1) * 32 ≤ 140737488355328 := by omega
  have m2 : l.length + 1 ≤ maxLen := by unfold maxLen; omega
  refine ⟨.own j 0 (l.length + 1) (ver + 1), H.set j (parE (ver + 1) fz (l ++ [q])), ?_, .inr ⟨j, ver + 1, fz, h0, by simp, by simp [hj]⟩, by simp, fun i hi => List.getElem?_set_ne (by omega)⟩
  unfold parE at h2
  simp [appV, parE, parP, h2, m1, m2]
theorem mapO_pars (H : Heap) (n : Nat) : ∀ l : List Par, mapO (resolveV H (n + 1)) (l.map (fun q => AVal.p (parP q))) = some (l.map parP)
 | [] => rfl
 | q :: l => by
  have := mapO_pars H n l
  simp only [List.map_cons, mapO, this, resolveV]
theorem OutP.res {N : Nat} {x : AVal} {H : Heap} {l : List Par} (h : OutP N x H l) (n : Nat) : resolveV H (n + 2) x = some (.lst (l.map parP)) := by
 rcases h with ⟨rfl, rfl⟩ | ⟨j, ver, fz, h0, rfl, h2⟩
 ·rfl
 ·have etk : (l.map (fun q => AVal.p (parP q))).take l.length = l.map (fun q => .p (parP q)) := List.take_of_length_le (by simp)
  have em := mapO_pars H n l
  unfold parE at h2
  simp only [resolveV, h2, List.length_map, Nat.zero_add, Nat.le_refl, and_self, if_true, List.drop_zero, etk, em]
theorem OutP.touch {N : Nat} {x : AVal} {H : Heap} {l : List Par} (h : OutP N x H l) (n : Nat) : ∀ i ∈ touchV H (n + 1) x, N ≤ i := by
 rcases h with ⟨rfl, rfl⟩ | ⟨j, ver, fz, h0, rfl, h2⟩
 ·intro i hi; cases hi
 ·intro i hi
  unfold parE at h2
  simp only [touchV, h2, List.mem_cons, List.mem_flatMap] at hi
  rcases hi with rfl | ⟨y, hy, hi⟩
  ·exact h0
  ·have hy' := List.mem_of_mem_take hy
   simp only [List.drop_zero, List.mem_map] at hy'
   obtain ⟨q, _, rfl⟩ := hy'
   cases n <;> cases hi
def parC (kd : Int) (name : List UInt8) (x : AVal) (res : List UInt8) (t : List AVal) : AVal := .agg ([.p (.int .i64 kd), .p (.str name), x, .p (.str res)] ++ t ++ [.tight [], .p (.int .i64 0)])
def noTerm : List AVal := [.p (.bool false), .p (.int .i64 0), .p (.str []), .p (.int .i64 0), .tight []]
theorem par_end {N k : Nat} {H0 H : Heap} {kd : Nat} {name res : List UInt8} {x : AVal} {t : List AVal} {l : List Par} {tr : Tr Wd} (hN : H0.length = N) (hk0 : k < N) (hk : H[k]? = some ⟨11, 0, false, [parC kd name x res t], 31⟩)
  (ho : OutP N x H l) (hpre : ∀ j, j < N → j ≠ k → H[j]? = H0[j]?) (ht : (t = noTerm ∧ tr = .leaf zW) ∨ t = (termC tr).map .p) :
  ∃ E, HSeen base H (H0.set k (cmdE { c0 zW kd with name := name, params := l, result := res, term := tr }) ++ E) := by
 subst hN
 have hr := ho.res 5
 refine HSeen.one hk0 hk ?_ hpre fun i hi => ?_
 ·rcases ht with ⟨rfl, rfl⟩ | rfl
  ·simp only [parC, noTerm, List.cons_append, List.nil_append]
   simp [resolveV, mapO, hr, encC, termC, zW, c0, encL]
  ·cases tr with
   | leaf w =>
    simp only [parC, termC, List.map_cons, List.map_nil, List.cons_append, List.nil_append]
    simp [resolveV, mapO, hr, encC, termC, zW, c0, encL]
   | list ks =>
    simp only [parC, termC, List.map_cons, List.map_nil, List.cons_append, List.nil_append]
    simp [resolveV, mapO, hr, encC, termC, zW, c0, encL]
 ·have htt := ho.touch 6
  rcases ht with ⟨rfl, rfl⟩ | rfl
  ·simp only [parC, noTerm, List.cons_append, List.nil_append] at hi
   simp [touchV, -List.mem_flatMap] at hi
   exact htt i hi
  ·cases tr with
   | leaf w =>
    simp only [parC, termC, List.map_cons, List.map_nil, List.cons_append, List.nil_append] at hi
    simp [touchV, -List.mem_flatMap] at hi
    exact htt i hi
   | list ks =>
    simp only [parC, termC, List.map_cons, List.map_nil, List.cons_append, List.nil_append] at hi
    simp [touchV, -List.mem_flatMap] at hi
    exact htt i hi
def funM (l : List (Tr Wd)) : Bool × Cmd Wd := match l with
 | [a, .list ks, r] => (sb a && ks.all sb && sb r, { c0 zW 5 with name := sy a, params := ks.map (fun t => ([], sy t)), result := sy r })
 | _ => (false, c0 zW 5)
def okP (a : Tr Wd) (ks : List (Tr Wd)) (i : Nat) : Bool := sb a && (ks.take i).all sb
def syP (ks : List (Tr Wd)) (i : Nat) : List Par := (ks.take i).map fun t => ([], sy t)
theorem okP_next {a t : Tr Wd} {ks : List (Tr Wd)} {i : Nat} (h : ks[i]? = some t) : okP a ks (i + 1) = (okP a ks i && sb t) := by
 unfold okP
 rw [take_next h, List.all_append, Bool.and_assoc]; simp
theorem syP_next {t : Tr Wd} {ks : List (Tr Wd)} {i : Nat} (h : ks[i]? = some t) : syP ks i ++ [([], sy t)] = syP ks (i + 1) := by
 unfold syP
 rw [take_next h, List.map_append]; rfl
theorem syP_len {ks : List (Tr Wd)} {i : Nat} (h : i ≤ ks.length) : (syP ks i).length = i := by simp [syP]; omega
def funF : CmdF := fun kd l => if kd = 5 ∧ sizeL l ≤ 1000000 then some (funM l) else none
theorem kids_size {l : List (Tr Wd)} {ks : List (Tr Wd)} (h : Tr.list ks ∈ l) : sizeL ks < sizeL l := by
 have := size_mem h
 simp only [Tr.size] at this
 omega
theorem fun_cm_ok : MuOk Tryz.prog base 48 (cmdM funF) := by
 refine cmd_of_vc Tmt_ok low48 fun kd l b c k H0 hF hk => ?_
 unfold funF at hF
 split at hF
 case isFalse => cases hF
 rename_i hc
 obtain ⟨rfl, hsz⟩ := hc
 have hF' := Option.some.inj hF
 clear hF
 refine ⟨by simp [lf48], ?_⟩
 have hkl : k < H0.length := (List.getElem?_eq_some_iff.1 hk).1
 have hk' := hk
 simp only [newE, newC] at hk'
 have hne := new_end (base := base) hk
 have hbad : ∀ l : List (Tr Wd), (((encL l).length : Int) != 3) = true → ∀ b c, (false, c0 zW 5) = (b, c) → vc Tmt lf48.body (ownZ base Tmt lf48.results (.p (.bool b)) (H0.set k (cmdE c))) (initFr [.optr k 0 0 0, .p (.lst (encL l))]) H0 := fun l hl b c h => by
  cases h
  simp [lf48, hl, ownZ]
  exact hne
 match l with
 | [] => exact hbad _ (by rfl) _ _ hF'
 | [a] => exact hbad _ (by rfl) _ _ hF'
 | [a, d] => exact hbad _ (by rfl) _ _ (by cases d <;> exact hF')
 | a :: d :: r :: e :: l => exact hbad _ (by rw [encL_len]; simp; omega) _ _ (by cases d <;> exact hF')
 | [a, .leaf w, r] =>
  cases hF'
  simp [lf48, encL, encT, ownZ]
  exact hne
 | [a, .list ks, r] =>
  have h1 := sSym_at a
  have h3 := sSym_at r
  have hks := kids_size (l := [a, .list ks, r]) (ks := ks) (by simp)
  have hkl2 := len_size ks
  obtain ⟨ab, ak, as_, aa, avs, aen⟩ := encT_shape a
  obtain ⟨rb, rk, rs, ra, rvs, ren⟩ := encT_shape r
  rw [aen] at h1
  rw [ren] at h3
  simp [lf48, encL, encT, aen, ren, h1, h3, encL_len]
  simp only [lf48_B0, vc_block]
  refine loop_ind (fun fr H => ∃ (i : Nat) (x : AVal), i ≤ ks.length ∧ fr 0 = .optr k 0 0 0 ∧ fr 40 = .p (.lst (encL ks)) ∧ fr 41 = .p (.int .i64 (ks.length : Int)) ∧ fr 42 = .p (.int .i64 (i : Int)) ∧ fr 5 = .p (.str (sy a)) ∧ fr 6 = .p (.bool (okP a ks i)) ∧ fr 7 = .p (.str (sy r)) ∧ fr 8 = .p (.bool (sb r)) ∧
    H[k]? = some ⟨11, 0, false, [parC 5 [] x [] noTerm], 31⟩ ∧ OutP H0.length x H (syP ks i) ∧ H0.length ≤ H.length ∧ ∀ j, j < H0.length → j ≠ k → H[j]? = H0[j]?)
   (fun fr _ => ks.length - ivar (fr 42)) ⟨0, .tight [], by simp, by simp, by simp, by simp, by simp, by simp, by simp [okP], by simp, by simp, by rw [hk']; rfl, .inl ⟨rfl, rfl⟩, Nat.le_refl _, fun _ _ _ => rfl⟩ ?_
  rintro fr H ⟨i, x, hi, f0, f40, f41, f42, f5, f6, f7, f8, g1, g2, g3, g4⟩
  have g1' := g1
  simp only [parC, noTerm, List.cons_append, List.nil_append] at g1'
  by_cases hlt : i < ks.length
  ·obtain ⟨t, hti⟩ : ∃ t, ks[i]? = some t := ⟨_, List.getElem?_eq_getElem hlt⟩
   have hg := encL_get hti
   have hst := sSym_at t
   obtain ⟨tb, tk, ts, ta, tvs, ten⟩ := encT_shape t
   rw [ten] at hg hst
   have hkH : k < H.length := by omega
   obtain ⟨x', H', e1, e2, e3, e4⟩ := (g2.keep (H' := H ++ [rowE 0 false [treeV t], parE 0 false [([], sy t)]]) fun j hj _ => by rw [List.getElem?_append_left hj]).app (by simp; omega) (by rw [syP_len hi]; omega) ([], sy t)
   have ga : ∀ E : Heap, (H ++ E)[k]? = some ⟨11, 0, false, [.agg [.p (.int .i64 5), .p (.str []), x, .p (.str []), .p (.bool false), .p (.int .i64 0), .p (.str []), .p (.int .i64 0), .tight [], .tight [], .p (.int .i64 0)]], 31⟩ := fun E => by rw [List.getElem?_append_left hkH]; exact g1'
   have gb := (e4 k hkl).trans (ga _)
   have hkH' : k < H'.length := by simp at e3; omega
   unfold rowE treeV parE parP at e1
   simp only [List.map_cons, List.map_nil] at e1
   rw [ten] at e1
   rw [syP_next hti] at e2
   rcases e2 with ⟨_, hnil⟩ | ⟨j', ver', fz', q1, rfl, q3⟩
   ·have := congrArg List.length hnil
    rw [syP_len (by omega)] at this; simp at this
   have hnx := okP_next (a := a) hti
   have hlm := syP_len (ks := ks) (i := i + 1) (by omega)
   generalize okP a ks i = pr at *
   generalize sb t = sbt at *
   have fin : ∀ C : Ent, C = ⟨11, 0, false, [parC 5 [] (.own j' 0 (syP ks (i + 1)).length ver') [] noTerm], 31⟩ → ∃ x, (H'.set k C)[k]? = some ⟨11, 0, false, [parC 5 [] x [] noTerm], 31⟩ ∧ OutP H0.length x (H'.set k C) (syP ks (i + 1)) ∧ H0.length ≤ H'.length ∧ ∀ j, j < H0.length → ¬ j = k → (H'.set k C)[j]? = H0[j]? := by
    rintro C rfl
    refine ⟨_, List.getElem?_set_self hkH', .inr ⟨j', ver', fz', q1, rfl, ?_⟩, by simp at e3; omega, fun j hj hne => ?_⟩
    ·rw [List.getElem?_set_ne (by omega)]; exact q3
    ·rw [List.getElem?_set_ne (fun h => hne h.symm), e4 j hj, List.getElem?_append_left (by omega)]
     exact g4 j hj hne
   cases pr with
   | true =>
    simp [f0, f40, f41, f42, f6, hlt, hg, hst, get_end, set_end, ga, e1, gb, fillS, fillA, -appV, wrap_succ (i := i) (by omega)]
    exact ⟨⟨i + 1, by omega, by simp, f5, by rw [hnx]; simp, f7, f8, fin _ rfl⟩, by simp only [ivar]; omega⟩
   | false =>
    simp [f0, f40, f41, f42, f6, hlt, hg, hst, get_end, set_end, ga, e1, gb, fillS, fillA, -appV, wrap_succ (i := i) (by omega)]
    exact ⟨⟨i + 1, by omega, by simp, f5, by rw [hnx]; simp, f7, f8, fin _ rfl⟩, by simp only [ivar]; omega⟩
  ·have hil : i = ks.length := by omega
   subst hil
   have hb : b = (okP a ks ks.length && sb r) := by
    have h := congrArg Prod.fst hF'
    dsimp only at h
    rw [← h]
    simp only [funM, okP, List.take_length]
   have hcc : c = { c0 zW 5 with name := sy a, params := syP ks ks.length, result := sy r, term := .leaf zW } := by
    have h := congrArg Prod.snd hF'
    dsimp only at h
    rw [← h]
    simp only [funM, syP, List.take_length]
    rfl
   have gs : ∀ e : Ent, (H.set k e)[k]? = some e := fun e => List.getElem?_set_self (by omega)
   have hlm := syP_len (ks := ks) (i := ks.length) (Nat.le_refl _)
   have hend : ∀ C : Ent, C = ⟨11, 0, false, [parC 5 (sy a) x (sy r) noTerm], 31⟩ → ∃ E, HSeen base (H.set k C) (H0.set k (cmdE c) ++ E) := by
    rintro C rfl
    rw [hcc]
    exact par_end rfl hkl (gs _) (g2.keep fun j hj hN => List.getElem?_set_ne (by omega)) (fun j hj hne => by rw [List.getElem?_set_ne (Ne.symm hne)]; exact g4 j hj hne) (.inl ⟨rfl, rfl⟩)
   generalize okP a ks ks.length = pr at *
   rcases g2 with ⟨rfl, hnil⟩ | ⟨j', ver', fz', q1, rfl, q3⟩
   ·cases pr <;> simp [f0, f41, f42, f5, f6, f7, f8, g1', gs, ownZ] <;> exact ⟨by rw [hb]; simp, hend _ rfl⟩
   ·cases pr <;> simp [f0, f41, f42, f5, f6, f7, f8, g1', gs, ownZ] <;> exact ⟨by rw [hb]; simp, hend _ rfl⟩
end Go.Proofs.YtcbagnlidecmkaaGreatDoor
