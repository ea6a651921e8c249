/-
  ScriptParams answers true on all values. No conditions.
-/
import Derived.Test.YtcbagnlidecmkaaGreatDoorScriptG
import Derived.Test.YtcbagnlidecmkaaGreatDoorScriptP
import Derived.Test.YtcbagnlidecmkaaGreatDoorLexC
set_option linter.unusedSimpArgs false
set_option linter.unnecessarySimpa false
set_option linter.unusedVariables false
set_option linter.constructorNameAsVariable false

/-
 law13: ScriptParams.
-/
namespace Go.Proofs.YtcbagnlidecmkaaGreatDoor
open Go Go.Abs Go.Lex Go.Sexp
set_option maxRecDepth 20000
attribute [local irreducible] vc
attribute [local simp] pureS touchV freezeL fuel shiftV
variable {base : Prot} {m : Int}
def encI (z : Int) : PVal := .int .i64 z
def decIs : List PVal → Option (List Int)
 | [] => some []
 | .int .i64 z :: r => match decIs r with | some l => some (z :: l) | none => none
 | _ => none
theorem decIs_enc : ∀ l : List Int, decIs (l.map encI) = some l
 | [] => rfl
 | z :: l => by
  show (match decIs (l.map encI) with | some l => some (z :: l) | none => none) = _
  rw [decIs_enc l]
theorem decIs_some : ∀ {vs : List PVal} {l : List Int}, decIs vs = some l → vs = l.map encI
 | [], l, h => by cases h; rfl
 | v :: r, l, h => by
  unfold decIs at h
  split at h
  ·rename_i h0; cases h0
  ·rename_i z r' h0
   cases h0
   split at h
   ·rename_i l' hl
    cases h
    rw [decIs_some hl]; rfl
   ·cases h
  ·cases h
def kOf (z : Int) : Nat := (z % 10).toNat
theorem kOf_lt (z : Int) : kOf z < 10 := by unfold kOf; omega
theorem kOf_is (z : Int) : z % 10 = (kOf z : Int) := by unfold kOf; omega
theorem round10 (z : Int) : sRound [.int .i64 z, .int .i64 10] = some (.int .i64 (kOf z)) := by simp [sRound, kOf_is]
theorem nm_byte {k : Nat} (h : k < 10) : IntKind.i64.wrap (48 + (k : Int)) = 48 + (k : Int) ∧ IntKind.u8.wrap (48 + (k : Int)) = ((48 + k : Nat) : Int) := by
 refine ⟨IntWalk.i64_in _ (by omega), ?_⟩
 have : ∀ k, k < 10 → IntKind.u8.wrap (48 + ((k : Nat) : Int)) = ((48 + k : Nat) : Int) := by decide +kernel
 exact this k h
def pieceS (df : Bool) (k : Nat) : List UInt8 := 32 :: (if df = true then 40 :: (nmK k ++ [32, 82, 101, 97, 108, 41]) else nmK k)
theorem tail_next {df : Bool} {K : List Nat} {i k : Nat} (h : K[i]? = some k) (hk : k < 10) : showTail ((K.take (i + 1)).map (partK df)) = showTail ((K.take i).map (partK df)) ++ pieceS df k := by
 rw [List.take_add_one, h, List.map_append]
 show showTail (_ ++ [partK df k]) = _
 rw [tail_snoc, (part_ok hk).2.2]; rfl
def twiceB (K : List Nat) : Bool := !decide K.Nodup
theorem twice_next {K : List Nat} {i k : Nat} (h : K[i]? = some k) : twiceB (K.take (i + 1)) = (twiceB (K.take i) || (K.take i).contains k) := by
 rw [List.take_add_one, h]
 unfold twiceB
 have e : ((K.take i ++ [k]).Nodup) ↔ ((K.take i).Nodup ∧ k ∉ K.take i) := by
  rw [List.nodup_append]
  constructor
  ·rintro ⟨h1, _, h2⟩; exact ⟨h1, fun hk => h2 k hk k (by simp) rfl⟩
  ·rintro ⟨h1, h2⟩; exact ⟨h1, by simp, fun a ha b hb => by simp at hb; subst hb; exact fun e => h2 (e ▸ ha)⟩
 show (!decide ((K.take i ++ [k]).Nodup)) = _
 have hd : decide ((K.take i ++ [k]).Nodup) = (decide (K.take i).Nodup && !(K.take i).contains k) := by
  rw [Bool.eq_iff_iff, decide_eq_true_iff, e]; simp
 rw [hd]
 cases decide (K.take i).Nodup <;> cases (K.take i).contains k <;> rfl
theorem defT_eq (K : List Nat) : defT K = [40, 100, 101, 102, 105, 110, 101, 45, 102, 117, 110, 32, 102, 32, 40] ++ (showTail (K.map (partK true)) ++ [41, 32, 85, 32, 110, 48, 41]) := by
 have a1 : wrW 3 (nameK 6) = [100, 101, 102, 105, 110, 101, 45, 102, 117, 110] := by decide +kernel
 have a2 : wrW 3 [102] = [102] := by decide +kernel
 have a3 : showTail [sK [85], sK [110, 48]] = [32, 85, 32, 110, 48] := by decide +kernel
 unfold defT pieceT
 rw [a1, a2, a3]; simp
theorem funT_eq (K : List Nat) : funT K = [40, 100, 101, 99, 108, 97, 114, 101, 45, 102, 117, 110, 32, 102, 32, 40] ++ (showTail (K.map (partK false)) ++ [41, 32, 85, 41]) := by
 have a1 : wrW 3 (nameK 5) = [100, 101, 99, 108, 97, 114, 101, 45, 102, 117, 110] := by decide +kernel
 have a2 : wrW 3 [102] = [102] := by decide +kernel
 have a3 : showTail [sK [85]] = [32, 85] := by decide +kernel
 unfold funT pieceT
 rw [a1, a2, a3]; simp
noncomputable def Tpm : Tab := ((Tab.none.with 12 (pureS sOne)).with 8 (pureS sAwake)).with 15 (pureS sRound)
theorem Tpm_ok : TabOk Tryz.prog (base3 m) Tpm := Tab.with_ok (Tab.with_ok (Tab.with_ok Tab.none_ok one_ok) awake13_ok) round_ok
theorem Tpm_mu (f : FuncId) (a : List AVal) (H : Heap) : Tpm.mu f a H = none := (rfl)
theorem Tpm_1 : Tpm.fn 12 = pureS sOne := (rfl)
theorem Tpm_2 : Tpm.fn 8 = pureS sAwake := (rfl)
theorem Tpm_3 : Tpm.fn 15 = pureS sRound := (rfl)
attribute [local simp] Tpm_mu Tpm_1 Tpm_2 Tpm_3
def sParams : List PVal → Option PVal
 | [.lst vs, .bool _] => match decIs vs with | some _ => some (.bool true) | none => none
 | _ => none
theorem params13_ok : FnOk Tryz.prog (base3 m) 5 (pureS sParams) := by
 refine pure_of_vc hmix Tpm_ok globNone low5 fun args x hs hf => ?_
 unfold sParams at hs
 split at hs
 case h_2 => cases hs
 rename_i vs df
 split at hs
 case h_2 => cases hs
 rename_i l hl
 have := decIs_some hl
 subst this
 cases hs
 refine ⟨by simp [lf5], ?_⟩
 by_cases hl15 : 15 < l.length
 ·have h1 : ((15 : Int) < l.length) = True := by simp; omega
  simp [lf5, h1, awb_is]
 have h1 : ((15 : Int) < l.length) = False := by simp; omega
 simp [lf5, h1]
 generalize hKd : l.map kOf = K
 have hKl : K.length = l.length := by rw [← hKd, List.length_map]
 have hK : ∀ k ∈ K, k < 10 := fun k hk => by
  rw [← hKd] at hk
  obtain ⟨z, _, rfl⟩ := List.mem_map.1 hk
  exact kOf_lt z
 have hget : ∀ {i : Nat} {z : Int}, l[i]? = some z → K[i]? = some (kOf z) := fun h => by rw [← hKd, List.getElem?_map, h]; rfl
 simp only [lf5_B1, vc_block]
 refine loop_ind (fun fr H => ∃ i : Nat, i ≤ l.length ∧ fr 0 = .p (.lst (l.map encI)) ∧ fr 1 = .p (.bool df) ∧ fr 7 = .p (.int .i64 (i : Int)) ∧ fr 5 = .p (.str (showTail ((K.take i).map (partK df)))) ∧ fr 6 = .p (.bool (twiceB (K.take i))))
  (fun fr _ => l.length - ivar (fr 7)) ⟨0, by simp, by simp, by simp, by simp, by simp [showTail], by simp [twiceB]⟩ ?_
 rintro fr H ⟨i, hi, f0, f1, f7, f5, f6⟩
 by_cases hlt : i < l.length
 ·obtain ⟨z, hz⟩ : ∃ z, l[i]? = some z := ⟨_, List.getElem?_eq_getElem hlt⟩
  have hkz := hget hz
  have hk10 := kOf_lt z
  have hr := round10 z
  have htl := tail_next (df := df) hkz hk10
  have htw := twice_next hkz
  obtain ⟨w1, w2⟩ := nm_byte hk10
  have hpl := parts_len (df := df) (K := K.take i) fun k hk => hK k (List.mem_of_mem_take hk)
  rw [List.length_take] at hpl
  generalize showTail ((K.take i).map (partK df)) = S at *
  have hS : S.length ≤ 150 := by omega
  have hSm : ∀ c, 9000000000000000000 ≤ c → (S.length ≤ c) = True := fun c hc => by simp; omega
  have hgz : (l.map encI)[i]? = some (.int .i64 z) := by rw [List.getElem?_map, hz]; rfl
  generalize kOf z = k at *
  have w3 : ((48 : Int) + k).toNat = 48 + k := by omega
  generalize twiceB (K.take i) = tw at *
  obtain ⟨d, hdd⟩ : ∃ d, d = df := ⟨df, rfl⟩
  rw [← hdd] at htl
  cases df
  all_goals
   simp [f0, f1, f7, f5, f6, hlt, hgz, getE hz, encI, hr, bytesOf, w1, w2, w3, hSm, get_end, fillS, binS, maxLen, -List.map_take]
   simp only [lf5_B0, vc_block]
   refine loop_ind (fun fr H => ∃ j : Nat, j ≤ i ∧ fr 0 = .p (.lst (l.map encI)) ∧ fr 1 = .p (.bool d) ∧ fr 7 = .p (.int .i64 (i : Int)) ∧ fr 8 = .p (.int .i64 (k : Int)) ∧ fr 10 = .p (.int .i64 (j : Int)) ∧ fr 5 = .p (.str (S ++ pieceS d k)) ∧ fr 6 = .p (.bool (tw || (K.take j).contains k)))
    (fun fr _ => i - ivar (fr 10)) ⟨0, by simp, by simp [f0], by simp [f1, hdd], by simp [f7], by simp, by simp, by simp [pieceS, nmK, hdd], by simp [f6]⟩ ?_
   rintro fr H ⟨j, hj, f0, f1, f7, f8, f10, f5, f6⟩
   by_cases hjt : j < i
   ·obtain ⟨y, hy⟩ : ∃ y, l[j]? = some y := ⟨_, List.getElem?_eq_getElem (by omega)⟩
    have hky := hget hy
    have hry := round10 y
    have hct : (K.take (j + 1)).contains k = ((K.take j).contains k || (kOf y == k)) := by
     rw [List.take_add_one, hky]
     show (K.take j ++ [kOf y]).contains k = _
     rw [Bool.eq_iff_iff]; simp; constructor <;> rintro (h | h) <;> first | exact .inl h | exact .inr h.symm
    have hjl : j < l.length := by omega
    generalize kOf y = q at *
    have hqe : ((q : Int) == (k : Int)) = (q == k) := by rw [Bool.eq_iff_iff]; simp; omega
    generalize (K.take j).contains k = cj at *
    generalize (q == k) = qe at *
    cases tw <;> cases cj <;> cases qe <;> simp [f0, f1, f7, f8, f10, f5, f6, hjt, hjl, getE hy, encI, hry, hqe, -List.map_take, wrap_succ (i := j) (by omega)]
    all_goals
     refine ⟨⟨j + 1, by omega, ?_⟩, by simp only [ivar]; omega⟩
     first
      | (simp; done)
      | (simp; simpa using hct)
   ·have hji : j = i := by omega
    subst hji
    simp [f0, f1, f7, f8, f10, f5, f6, -List.map_take, wrap_succ (i := j) (by omega)]
    refine ⟨⟨j + 1, by omega, hdd, by simp, by subst hdd; exact htl.symm, by rw [htw]; simp⟩, by simp only [ivar]; omega⟩
 ·have hil : i = l.length := by omega
  subst hil
  rw [List.take_of_length_le (by omega)] at f5 f6
  have hKh : K.length ≤ 100 := by omega
  cases df with
  | true =>
   obtain ⟨d1, t, d2, d3, d4⟩ := def_read hK hKh
   have hl := parts_len (df := true) hK
   have hSm : ∀ c, 9000000000000000000 ≤ c → ((showTail (K.map (partK true))).length ≤ c) = True := fun c hc => by simp; omega
   have hSp : 15 + (showTail (K.map (partK true))).length ≤ 9223372036854775807 := by omega
   by_cases hn : K.Nodup
   ·obtain ⟨c, c1, c2⟩ := d3 hn
    have ho := (one_good (s := defT K) (by omega) (c := c) (by unfold oneO; rw [d2]; exact c1)).1
    have htw : twiceB K = false := by simp [twiceB, hn]
    obtain ⟨w, hw⟩ : ∃ w, c.term = .leaf w := by
     have := congrArg Cmd.term c2
     cases hct : c.term with
     | leaf w => exact ⟨w, rfl⟩
     | list ks => simp [Cmd.map, hct, Tr.map, sK] at this
    have e1 : c.kind = 6 := congrArg Cmd.kind c2
    have e2 : c.params = K.map (pairK true) := congrArg Cmd.params c2
    have e3 : c.result = [85] := congrArg Cmd.result c2
    have e4 : w.text = [110, 48] := by
     have := congrArg Cmd.term c2
     simp only [Cmd.map, hw, Tr.map, sK, key, Tr.leaf.injEq, Prod.mk.injEq] at this
     exact this.2
    have he : encC c = .agg [.int .i64 c.kind, .str c.name, .lst (c.params.map parP), .str c.result, .bool false, .int .i64 w.kind, .str w.text, .int .i64 w.at_, .lst [], .lst (encL c.terms), .int .i64 c.n] := encC_at (by rw [hw]; rfl)
    rw [e1, e2, e3, e4, List.map_map] at he
    rw [defT_eq, he] at ho
    rw [htw] at f6
    have hpl : ∀ {i : Nat} {z : Int}, l[i]? = some z → (K.map (parP ∘ pairK true))[i]? = some (.agg [.str (nmK (kOf z)), .str [82, 101, 97, 108]]) := fun h => by
     rw [List.getElem?_map, hget h]; rfl
    have hlen : (K.map (parP ∘ pairK true)).length = l.length := by rw [List.length_map, hKl]
    generalize K.map (parP ∘ pairK true) = Q at *
    generalize showTail (K.map (partK true)) = S at *
    simp at ho
    simp [f0, f1, f7, f5, f6, hSm, hSp, binS, maxLen, ho, hlen]
    simp only [lf5_B2, vc_block]
    refine loop_ind (fun fr H => ∃ i h : Nat, i ≤ l.length ∧ fr 0 = .p (.lst (l.map encI)) ∧ fr 13 = .p (.int .i64 (i : Int)) ∧ fr 11 = .optr h 0 0 0 ∧ H[h]? = some ⟨11, 0, false, [.p (.agg [.int .i64 6, .str c.name, .lst Q, .str [85], .bool false, .int .i64 w.kind, .str [110, 48], .int .i64 w.at_, .lst [], .lst (encL c.terms), .int .i64 c.n])], 31⟩)
     (fun fr _ => l.length - ivar (fr 13)) ⟨0, H.length, by simp, by simp [f0], by simp, by simp, by simp⟩ ?_
    rintro fr H ⟨i, h, hi, f0, f13, f11, g0⟩
    by_cases hlt : i < l.length
    ·obtain ⟨z, hz⟩ : ∃ z, l[i]? = some z := ⟨_, List.getElem?_eq_getElem hlt⟩
     have hk10 := kOf_lt z
     have hr := round10 z
     obtain ⟨w1, w2⟩ := nm_byte hk10
     have hq := hpl hz
     have hq' := getE hq
     generalize kOf z = k at *
     have w3 : ((48 : Int) + k).toNat = 48 + k := by omega
     have hnm : (nmK k == [110, 48 + UInt8.ofNat k]) = true := by simp [nmK]
     have gh : ∀ e : Ent, (H ++ [e])[h]? = H[h]? := fun e => List.getElem?_append_left (List.getElem?_eq_some_iff.1 g0).1
     simp [f0, f13, f11, g0, hlt]
     rw [vc_regionW]
     refine ⟨[], ?_⟩
     simp [f0, f13, f11, g0, gh, hlt, hq, hq', getE hz, encI, hr, bytesOf, w1, w2, w3, get_end, fillS, binS, maxLen, hnm, wrap_succ (i := i) (by omega)]
     exact ⟨(List.getElem?_eq_some_iff.1 g0).1, fun k hk => List.getElem?_append_left hk, ⟨i + 1, by omega, by simp⟩, by simp only [ivar]; omega⟩
    ·have hil : i = l.length := by omega
     subst hil
     simp [f0, f13, f11, awb_is]
   ·have ho : sOne [.str (defT K)] = some (.tup [encC (c0 zW 0), .int .i64 2]) := one_bad (by omega) (by unfold badO; rw [d2]; exact Option.isNone_iff_eq_none.2 (d4 hn))
    have htw : twiceB K = true := by simp [twiceB, hn]
    rw [defT_eq, enc0] at ho
    rw [htw] at f6
    generalize showTail (K.map (partK true)) = S at *
    simp at ho
    simp [f0, f1, f7, f5, f6, hSm, hSp, binS, maxLen, ho, awb_is]
  | false =>
   obtain ⟨d1, t, d2, c, c1, c2⟩ := fun_read hK hKh
   have hl := parts_len (df := false) hK
   have hSm : ∀ c, 9000000000000000000 ≤ c → ((showTail (K.map (partK false))).length ≤ c) = True := fun c hc => by simp; omega
   have hSp : 16 + (showTail (K.map (partK false))).length ≤ 9223372036854775807 := by omega
   have ho := (one_good (s := funT K) (by omega) (c := c) (by unfold oneO; rw [d2]; exact c1)).1
   have e1 : c.kind = 5 := congrArg Cmd.kind c2
   have e2 : c.params = K.map (pairK false) := congrArg Cmd.params c2
   obtain ⟨tb, tk, ts, ta, tvs, ten⟩ := encT_shape c.term
   have he := encC_at ten
   rw [e1, e2, List.map_map] at he
   rw [funT_eq, he] at ho
   have hpl : ∀ {i : Nat} {z : Int}, l[i]? = some z → (K.map (parP ∘ pairK false))[i]? = some (.agg [.str [], .str (nmK (kOf z))]) := fun h => by
    rw [List.getElem?_map, hget h]; rfl
   have hlen : (K.map (parP ∘ pairK false)).length = l.length := by rw [List.length_map, hKl]
   generalize K.map (parP ∘ pairK false) = Q at *
   generalize showTail (K.map (partK false)) = S at *
   simp at ho
   simp [f0, f1, f7, f5, f6, hSm, hSp, binS, maxLen, ho, hlen]
   simp only [lf5_B3, vc_block]
   refine loop_ind (fun fr H => ∃ i h : Nat, i ≤ l.length ∧ fr 0 = .p (.lst (l.map encI)) ∧ fr 16 = .p (.int .i64 (i : Int)) ∧ fr 14 = .optr h 0 0 0 ∧ H[h]? = some ⟨11, 0, false, [.p (.agg [.int .i64 5, .str c.name, .lst Q, .str c.result, .bool tb, .int .i64 tk, .str ts, .int .i64 ta, .lst tvs, .lst (encL c.terms), .int .i64 c.n])], 31⟩)
    (fun fr _ => l.length - ivar (fr 16)) ⟨0, H.length, by simp, by simp [f0], by simp, by simp, by simp⟩ ?_
   rintro fr H ⟨i, h, hi, f0, f16, f14, g0⟩
   by_cases hlt : i < l.length
   ·obtain ⟨z, hz⟩ : ∃ z, l[i]? = some z := ⟨_, List.getElem?_eq_getElem hlt⟩
    have hk10 := kOf_lt z
    have hr := round10 z
    obtain ⟨w1, w2⟩ := nm_byte hk10
    have hq := hpl hz
    have hq' := getE hq
    generalize kOf z = k at *
    have w3 : ((48 : Int) + k).toNat = 48 + k := by omega
    have hnm : (nmK k == [110, 48 + UInt8.ofNat k]) = true := by simp [nmK]
    have gh : ∀ e : Ent, (H ++ [e])[h]? = H[h]? := fun e => List.getElem?_append_left (List.getElem?_eq_some_iff.1 g0).1
    simp [f0, f16, f14, g0, hlt]
    rw [vc_regionW]
    refine ⟨[], ?_⟩
    simp [f0, f16, f14, g0, gh, hlt, hq, hq', getE hz, encI, hr, bytesOf, w1, w2, w3, get_end, fillS, binS, maxLen, hnm, wrap_succ (i := i) (by omega)]
    exact ⟨(List.getElem?_eq_some_iff.1 g0).1, fun k hk => List.getElem?_append_left hk, ⟨i + 1, by omega, by simp⟩, by simp only [ivar]; omega⟩
   ·have hil : i = l.length := by omega
    subst hil
    simp [f0, f16, f14, awb_is]
end Go.Proofs.YtcbagnlidecmkaaGreatDoor
