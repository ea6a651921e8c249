/-
  What the reader's methods and All compute, for at most 65536 bytes.
-/
import Derived.Test.YthnkmebnigefaaaDoorLexD
set_option linter.unusedSimpArgs false
set_option linter.unusedVariables false
set_option linter.constructorNameAsVariable false

/-
  lex: blank.
-/
namespace Go.Proofs.YthnkmebnigefaaaDoor
open Go Go.Abs
variable {base : Prot}
set_option maxRecDepth 20000
attribute [local simp] pureS touchV freezeL fuel shiftV

theorem tw_dw {α : Type} (p : α → Bool) (l : List α) : (l.takeWhile p).length + (l.dropWhile p).length = l.length := by
  have := congrArg List.length (List.takeWhile_append_dropWhile (p := p) (l := l))
  rwa [List.length_append] at this

theorem drop_tw {α : Type} (p : α → Bool) (bs : List α) (i : Nat) : bs.drop (i + ((bs.drop i).takeWhile p).length) = (bs.drop i).dropWhile p := by
  rw [← List.drop_drop]
  generalize bs.drop i = l
  induction l with
  | nil => rfl
  | cons a l ih =>
    rw [List.takeWhile_cons, List.dropWhile_cons]
    split
    · simpa using ih
    · rfl

theorem drop_cons_at {α : Type} {bs : List α} {n : Nat} {e : α} {q : List α} (h : bs.drop n = e :: q) : n < bs.length ∧ bs[n]? = some e ∧ bs.drop (n + 1) = q ∧ bs.length = n + 1 + q.length := by
  have hl : (bs.drop n).length = q.length + 1 := by rw [h]; rfl
  have hn : n < bs.length := by simp at hl; omega
  have h2 := List.drop_eq_getElem_cons hn
  rw [h] at h2
  cases h2
  exact ⟨hn, by simp [hn], rfl, by rw [List.length_drop] at hl ⊢; omega⟩

theorem drop_nil_at {α : Type} {bs : List α} {n : Nat} (h : bs.drop n = []) : bs.length ≤ n := by simpa using h

theorem set_self {H : Heap} {k : Nat} {e : Ent} (h : H[k]? = some e) : H.set k e = H := by
  apply List.ext_getElem?
  intro j
  by_cases hj : k = j
  · subst hj; rw [List.getElem?_set_self (List.getElem?_eq_some_iff.1 h).1, h]
  · simp [hj]

theorem rd_size (bs : List UInt8) (i : Nat) : (rd bs i).size = 2 := (rfl)
theorem rd_ver (bs : List UInt8) (i : Nat) : (rd bs i).ver = 0 := (rfl)
theorem rd_froz (bs : List UInt8) (i : Nat) : (rd bs i).froz = false := (rfl)
theorem rd_ty (bs : List UInt8) (i : Nat) : (rd bs i).ty = 49 := (rfl)
theorem rd_elems (bs : List UInt8) (i : Nat) : (rd bs i).elems = [.p (.agg [.lst (bs.map b8), .int .i64 i])] := (rfl)
theorem rd_mk (bs : List UInt8) (i : Nat) : (⟨2, 0, false, [.p (.agg [.lst (bs.map b8), .int .i64 ((i : Int) + 1)])], 49⟩ : Ent) = rd bs (i + 1) := by simp [rd]
attribute [simp] rd_size rd_ver rd_froz rd_ty rd_elems rd_mk unrd_rd

/-- What while does, at a known reader. -/
theorem while_at {H : Heap} {k g : Nat} {p : UInt8 → Bool} {bs : List UInt8} {i : Nat} (hk : H[k]? = some (rd bs i)) (hg : predOf g = some p) (hi : i ≤ bs.length) (hb : bs.length ≤ 65536) :
    rdM whileF [.optr k 0 0 0, .p (.clo g [])] H = some (.p (.str ((bs.drop i).takeWhile p)), H.set k (rd bs (i + ((bs.drop i).takeWhile p).length))) := by
  refine rdM_of hk ?_
  simp [whileF, hg, hi, hb]

def Tr : Tab := ((Tab.none.with 26 (pureS (sByte isSign))).with 27 (pureS (sByte isDigit))).own 30 (rdM whileF)
theorem Tr_ok : TabOk Tryd.prog base Tr := Tab.own_ok (Tab.with_ok (Tab.with_ok Tab.none_ok sign_ok) digit_ok) while_ok
theorem Tr_30 (a : List AVal) (H : Heap) : Tr.mu 30 a H = rdM whileF a H := (rfl)
theorem Tr_mu {f : FuncId} (h : f ≠ 30) (a : List AVal) (H : Heap) : Tr.mu f a H = none := by
  show (if f = 30 then _ else _) = _
  rw [if_neg h]; rfl
theorem Tr_26 : Tr.fn 26 = pureS (sByte isSign) := (rfl)
theorem Tr_27 : Tr.fn 27 = pureS (sByte isDigit) := (rfl)

def blankF (bs : List UInt8) (i : Nat) : List AVal → Option (PVal × Nat)
  | [] => if i ≤ bs.length ∧ bs.length ≤ 65536 then some (.tup [], bs.length - (skip (bs.drop i)).length) else none
  | _ => none

theorem blank_ok : MuOk Tryd.prog base 18 (rdM blankF) := by
  refine reader_of_vc Tr_ok low18 fun k rest bs i x n H0 hk hF => ?_
  have hkl : k < H0.length := (List.getElem?_eq_some_iff.1 hk).1
  unfold blankF at hF
  split at hF
  case h_2 => cases hF
  split at hF
  case isFalse => cases hF
  rename_i hc
  obtain ⟨hi, hb⟩ := hc
  cases hF
  refine ⟨by simp [lf18], ?_⟩
  simp only [lf18, lf18_B0, vc_block]
  refine loop_ind (fun fr H => ∃ j : Nat, H = H0.set k (rd bs j) ∧ j ≤ bs.length ∧ skip (bs.drop j) = skip (bs.drop i) ∧ fr 0 = .optr k 0 0 0)
    (fun fr H => match H[k]? with | some e => (match unrd e with | some (_, j) => bs.length - j | none => 0) | none => 0) ⟨i, (set_self hk).symm, hi, rfl, by simp⟩ ?_
  rintro fr H ⟨j, rfl, hj, hsk, h0⟩
  have hkj : (H0.set k (rd bs j))[k]? = some (rd bs j) := List.getElem?_set_self hkl
  have hw := while_at (g := 31) (p := isBlank) hkj rfl hj hb
  have hd := drop_tw isBlank bs j
  generalize hn : j + ((bs.drop j).takeWhile isBlank).length = n at hw hd
  rw [skip_eq, ← hd] at hsk
  cases hr : bs.drop n with
  | nil =>
    have hnl := drop_nil_at hr
    have hnn : n = bs.length := by
      have := tw_dw isBlank (bs.drop j)
      simp at this
      omega
    subst hnn
    rw [hr] at hsk
    simp only at hsk
    rw [← hsk]
    simp [h0, Tr_30, hw, hkl, ownQ]
  | cons e q =>
    obtain ⟨hnl, hge, hdn, hlen⟩ := drop_cons_at hr
    have hnl' : ¬ bs.length ≤ n := by omega
    rw [hr] at hsk
    simp only at hsk
    by_cases he : e = 59
    · subst he
      rw [if_pos rfl] at hsk
      have hkn : ((H0.set k (rd bs j)).set k (rd bs n))[k]? = some (rd bs n) := List.getElem?_set_self (by simpa using hkl)
      have hw2 := while_at (g := 33) (p := isNoBreak) hkn rfl (by omega) hb
      have hd2 := drop_tw isNoBreak bs n
      have htw : ((bs.drop n).takeWhile isNoBreak).length = ((q.takeWhile isNoBreak).length + 1) := by
        rw [hr, List.takeWhile_cons, show isNoBreak 59 = true from by decide]; simp
      have htl : (q.takeWhile isNoBreak).length ≤ q.length := (List.takeWhile_prefix isNoBreak).length_le
      generalize hn2 : n + ((bs.drop n).takeWhile isNoBreak).length = n2 at hw2 hd2
      rw [hr] at hd2
      rw [← hd2] at hsk
      have hg : (59 : UInt8).toNat = 59 := rfl
      simp only [List.set_set] at hw hw2
      simp [h0, Tr_30, hw, hw2, hkl, hnl', hge]
      exact ⟨⟨n2, rfl, by omega, hsk⟩, by omega⟩
    · rw [if_neg he] at hsk
      rw [← hsk]
      have hnn : bs.length - (e :: q).length = n := by simp; omega
      rw [hnn]
      have hg : ((e.toNat : Int) != 59) = true := by rw [show (59 : Int) = ((59 : UInt8).toNat : Int) from rfl, u8_bne]; simpa using he
      simp [h0, Tr_30, hw, hkl, ownQ, hnl', hge, hg]
end Go.Proofs.YthnkmebnigefaaaDoor

/-
  lex: quoted and number.
-/
namespace Go.Proofs.YthnkmebnigefaaaDoor
open Go Go.Abs
variable {base : Prot}
set_option maxRecDepth 20000
attribute [local simp] pureS touchV freezeL fuel shiftV

/-- A word. -/
def wordV (kind : Int) (text : List UInt8) (at_ : Int) : PVal := .agg [.int .i64 kind, .str text, .int .i64 at_]
def wordE (kind : Int) (text : List UInt8) : Ent := ⟨3, 0, false, [.p (.agg [.int .i64 kind, .str text, .int .i64 0])], 41⟩

theorem reader_of_vc2 {T : Tab} (hT : TabOk Tryd.prog base T) {f : FuncId} {lf : LFunc} (hl : lowFunc Tryd.prog gl0 f = some lf) {F : List UInt8 → Nat → List AVal → Option (PVal × Nat)}
    (h : ∀ (k : Nat) rest bs i x j (H : Heap), k < H.length → F bs i rest = some (x, j) → (rest.length + 1 ≤ lf.n) ∧ vc T lf.body (ownQ T lf.results (.p x) (H.set k (rd bs j))) (initFr (.optr k 0 0 0 :: rest)) (H.set k (rd bs i))) : MuOk Tryd.prog base f (rdM F) := by
  refine reader_of_vc hT hl fun k rest bs i x j H hk hF => ?_
  have := h k rest bs i x j H (List.getElem?_eq_some_iff.1 hk).1 hF
  rwa [set_self hk] at this

section
variable {H0 : Heap} {k : Nat} {e e' w w' : Ent}
theorem hp_new : (H0.set k e ++ [w])[H0.length]? = some w := by simp
theorem hp_rd (h : k < H0.length) : (H0.set k e ++ [w])[k]? = some e := by rw [List.getElem?_append_left (by rw [List.length_set]; exact h), List.getElem?_set_self h]
theorem hp_setw : (H0.set k e ++ [w]).set H0.length w' = H0.set k e ++ [w'] := by simp
theorem hp_other {q : Nat} (h : k ≠ q) : (H0.set k e ++ [w])[q]? = (H0.set k e' ++ [w])[q]? := by
  simp only [List.getElem?_append, List.length_set, List.getElem?_set_ne h]
theorem hp_setr (h : k < H0.length) : (H0.set k e ++ [w]).set k e' = H0.set k e' ++ [w] := by
  rw [List.set_append_left _ _ (by rw [List.length_set]; exact h), List.set_set]
end

/-- One method's plain answer: what it says, and what is left. -/
def remF (P : List UInt8 → Bool) (g : List UInt8 → PVal × List UInt8) (bs : List UInt8) (i : Nat) : List AVal → Option (PVal × Nat)
  | [] => if i < bs.length ∧ bs.length ≤ 65536 ∧ P (bs.drop i) = true then some ((g (bs.drop i)).1, bs.length - (g (bs.drop i)).2.length) else none
  | _ => none

theorem remF_some {P : List UInt8 → Bool} {g : List UInt8 → PVal × List UInt8} {bs : List UInt8} {i : Nat} {rest : List AVal} {x : PVal} {j : Nat} (h : remF P g bs i rest = some (x, j)) :
    rest = [] ∧ i < bs.length ∧ bs.length ≤ 65536 ∧ P (bs.drop i) = true ∧ (g (bs.drop i)).1 = x ∧ j = bs.length - (g (bs.drop i)).2.length := by
  unfold remF at h
  split at h
  case h_2 => cases h
  split at h
  case isFalse => cases h
  rename_i hc
  cases h
  exact ⟨rfl, hc.1, hc.2.1, hc.2.2, rfl, rfl⟩

/-- Behind a bar. -/
def quoS (l : List UInt8) : PVal × List UInt8 := match (l.drop 1).dropWhile isInBars with
  | [] => (.tup [wordV 0 [] 0, .bool false], [])
  | c :: r => if c = 124 then (.tup [wordV 3 ((l.drop 1).takeWhile isInBars) 0, .bool true], r) else (.tup [wordV 0 [] 0, .bool false], c :: r)

def Tq : Tab := (((Tab.none.with 26 (pureS (sByte isSign))).with 27 (pureS (sByte isDigit))).own 30 (rdM whileF))

theorem quoted_ok : MuOk Tryd.prog base 35 (rdM (remF (fun _ => true) quoS)) := by
  refine reader_of_vc2 Tr_ok low35 fun k rest bs i x n H0 hkl hF => ?_
  obtain ⟨rfl, hi, hb, _, rfl, rfl⟩ := remF_some hF
  refine ⟨by simp [lf35], ?_⟩
  have hkn : (H0.set k (rd bs (i + 1)) ++ [wordE 0 []])[k]? = some (rd bs (i + 1)) := hp_rd hkl
  have hw := while_at (g := 44) (p := isInBars) hkn rfl (by omega) hb
  have hd := drop_tw isInBars bs (i + 1)
  have htw := tw_dw isInBars (bs.drop (i + 1))
  rw [hp_setr hkl] at hw
  have hdd : (bs.drop i).drop 1 = bs.drop (i + 1) := by simp
  generalize hn : (i + 1) + ((bs.drop (i + 1)).takeWhile isInBars).length = n at hw hd
  unfold wordE at hw
  unfold quoS wordV
  rw [hdd, ← hd]
  rw [← hd] at htw
  simp only [List.length_drop] at htw
  generalize (bs.drop (i + 1)).takeWhile isInBars = s at hw htw hn
  cases hr : bs.drop n with
  | nil =>
    have hnl := drop_nil_at hr
    have hnn : n = bs.length := by omega
    subst hnn
    simp [lf35, hkl, wrap_succ (i := i) (by omega), hp_new, hp_rd, hp_setw, hp_setr, Tr_30, hw, ownQ]
  | cons c q =>
    obtain ⟨hnl, hge, hdn, hlen⟩ := drop_cons_at hr
    have hnl' : ¬ bs.length ≤ n := by omega
    have hnn : bs.length - (q.length + 1) = n := by omega
    have hnq : bs.length - q.length = n + 1 := by omega
    by_cases hc : c = 124
    · subst hc
      simp [lf35, hkl, wrap_succ (i := i) (by omega), wrap_succ (i := n) (by omega), hp_new, hp_rd, hp_setw, hp_setr, Tr_30, hw, ownQ, hnl', hge, hnq]
    · have hg : ((c.toNat : Int) != 124) = true := by rw [show (124 : Int) = ((124 : UInt8).toNat : Int) from rfl, u8_bne]; simpa using hc
      simp [lf35, hkl, wrap_succ (i := i) (by omega), hp_new, hp_rd, hp_setw, hp_setr, Tr_30, hw, ownQ, hnl', hge, hg, hc, hnn]
end Go.Proofs.YthnkmebnigefaaaDoor

/-
  lex: number.
-/
namespace Go.Proofs.YthnkmebnigefaaaDoor
open Go Go.Abs
variable {base : Prot}
set_option maxRecDepth 20000
attribute [local simp] pureS touchV freezeL fuel shiftV

def endOk : List UInt8 → Bool
  | [] => true
  | e :: _ => !isSign e

def numOk (d : List UInt8) : Bool := d == [48] || (match d with | c :: _ => ((c.toNat : Int) != 48) | [] => false)

/-- A numeral, from its first digit on. -/
def numS (l : List UInt8) : PVal × List UInt8 :=
  let d := l.takeWhile isDigit
  match l.dropWhile isDigit with
  | a :: b :: r => if a = 46 ∧ isDigit b = true then
      (.tup [wordV 6 (d ++ [46] ++ (b :: r).takeWhile isDigit) 0, .bool (numOk d && endOk ((b :: r).dropWhile isDigit))], (b :: r).dropWhile isDigit)
    else (.tup [wordV 5 d 0, .bool (numOk d && endOk (a :: b :: r))], a :: b :: r)
  | r => (.tup [wordV 5 d 0, .bool (numOk d && endOk r)], r)

def headDigit : List UInt8 → Bool
  | c :: _ => isDigit c
  | [] => false

/-- The parts of number's code. -/
def numLast : LCode := match lf36.body with
  | .seq _ (.seq _ (.seq _ (.seq _ c))) => c
  | _ => .bad
def numFrac : LCode := match lf36.body with
  | .seq _ (.seq _ (.seq _ (.seq (.seq _ (.cond _ c _)) _))) => c
  | _ => .bad
def numPeek : LCode := match lf36.body with
  | .seq _ (.seq _ (.seq _ (.seq (.seq c _) _))) => c
  | _ => .bad
def numA : LCode := match lf36.body with | .seq a _ => a | _ => .bad
def numB : LCode := match lf36.body with | .seq _ (.seq a _) => a | _ => .bad
def numC : LCode := match lf36.body with | .seq _ (.seq _ (.seq a _)) => a | _ => .bad
theorem num_body : lf36.body = .seq numA (.seq numB (.seq numC (.seq (.seq numPeek (.cond (.tmp 53) numFrac .skip)) numLast))) := rfl

/-- number's last step. -/
theorem number_end {H0 : Heap} {k n : Nat} (hkl : k < H0.length) {bs : List UInt8} (hb : bs.length ≤ 65536) (hn : n ≤ bs.length) (kind : Int) (d : List UInt8) (ok : Bool) {fr : AFr} (h0 : fr 0 = .optr k 0 0 0) (h2 : fr 2 = .optr H0.length 0 0 0) (h3 : fr 3 = .p (.bool ok)) :
    vc Tr numLast (ownQ Tr [.cell 2 3 true, .slot 3] (.p (.tup [wordV kind d 0, .bool (ok && endOk (bs.drop n))])) (H0.set k (rd bs n))) fr (H0.set k (rd bs n) ++ [wordE kind d]) := by
  unfold wordE wordV
  simp only [numLast, lf36]
  rw [vc_seq, vc_regionW]
  refine ⟨[], ?_⟩
  cases ok with
  | false => simp [h0, h2, h3, hkl, hp_new, hp_rd, hp_setw, hp_setr, ownQ]
  | true =>
    cases hr : bs.drop n with
    | nil =>
      have hnl := drop_nil_at hr
      simp [h0, h2, h3, hkl, hp_new, hp_rd, hp_setw, hp_setr, ownQ, hnl, endOk]
    | cons e q =>
      obtain ⟨hnl, hge, hdn, hlen⟩ := drop_cons_at hr
      have hnl' : ¬ bs.length ≤ n := by omega
      simp [h0, h2, h3, hkl, hp_new, hp_rd, hp_setw, hp_setr, ownQ, hnl', hge, endOk, Tr_mu, Tr_26, sByte_b8]

/-- The fraction. -/
theorem number_frac {H0 : Heap} {k n : Nat} (hkl : k < H0.length) {bs : List UInt8} (hb : bs.length ≤ 65536) (d : List UInt8) (hd : d.length ≤ 65536) {r : List UInt8} (hr : bs.drop n = 46 :: r) {fr : AFr} (h0 : fr 0 = .optr k 0 0 0) (h2 : fr 2 = .optr H0.length 0 0 0) {Q : LExit → AFr → Heap → Prop}
    (hq : ∀ fr', fr' 0 = .optr k 0 0 0 → fr' 2 = .optr H0.length 0 0 0 → fr' 3 = fr 3 → Q .normal fr' (H0.set k (rd bs (bs.length - (r.dropWhile isDigit).length)) ++ [wordE 6 (d ++ [46] ++ r.takeWhile isDigit)])) :
    vc Tr numFrac Q fr (H0.set k (rd bs n) ++ [wordE 5 d]) := by
  obtain ⟨hnl, hge, hdn, hlen⟩ := drop_cons_at hr
  have hnl' : ¬ bs.length ≤ n := by omega
  have hkn : (H0.set k (rd bs (n + 1)) ++ [wordE 5 d])[k]? = some (rd bs (n + 1)) := hp_rd hkl
  have hw := while_at (g := 27) (p := isDigit) hkn rfl (by omega) hb
  have htw := tw_dw isDigit (bs.drop (n + 1))
  rw [hp_setr hkl] at hw
  rw [hdn] at hw htw
  have hpos : n + 1 + (r.takeWhile isDigit).length = bs.length - (r.dropWhile isDigit).length := by omega
  rw [hpos] at hw
  have hm : maxLen = 9223372036854775807 := rfl
  have hl1 : d.length + 1 ≤ maxLen := by omega
  have hl2 : d.length + 1 + (r.takeWhile isDigit).length ≤ maxLen := by omega
  generalize bs.length - (r.dropWhile isDigit).length = n2 at hw hq
  generalize r.takeWhile isDigit = f at hw hq hl2
  unfold wordE at hw hq ⊢
  simp only [numFrac, lf36]
  have hne : ¬ H0.length = k := by omega
  simp [h0, h2, hkl, hp_new, hp_rd, hp_setw, hp_setr, wrap_succ (i := n) (by omega)]
  rw [vc_regionW]
  refine ⟨[k], ?_⟩
  simp [h0, h2, hkl, hp_new, hp_rd, hp_setw, hp_setr, binS, hw, Tr_30, hl1, hl2, hne]
  refine ⟨?_, ?_⟩
  · intro q h1 h2
    have : ¬ k = q := fun e => h2 e.symm
    exact hp_other this
  · have := hq
    simp only [List.append_assoc, List.cons_append, List.nil_append] at this
    refine this _ ?_ ?_ ?_ <;> simp [h0, h2]

theorem number_ok : MuOk Tryd.prog base 36 (rdM (remF headDigit numS)) := by
  refine reader_of_vc2 Tr_ok low36 fun k rest bs i x n0 H0 hkl hF => ?_
  obtain ⟨rfl, hi, hb, hP, rfl, rfl⟩ := remF_some hF
  refine ⟨by simp [lf36], ?_⟩
  have hres : lf36.results = [.cell 2 3 true, .slot 3] := rfl
  rw [num_body, hres]
  have hkn : (H0.set k (rd bs i) ++ [wordE 0 []])[k]? = some (rd bs i) := hp_rd hkl
  have hw := while_at (g := 27) (p := isDigit) hkn rfl (by omega) hb
  rw [hp_setr hkl] at hw
  have hd := drop_tw isDigit bs i
  have htw := tw_dw isDigit (bs.drop i)
  obtain ⟨c, d', hcd⟩ : ∃ c d', (bs.drop i).takeWhile isDigit = c :: d' := by
    cases hl : bs.drop i with
    | nil => rw [hl] at hP; cases hP
    | cons c l =>
      rw [hl] at hP
      exact ⟨c, l.takeWhile isDigit, by rw [List.takeWhile_cons, show isDigit c = true from hP]; rfl⟩
  unfold numS
  simp only
  rw [hcd] at hw hd htw ⊢
  rw [← hd] at htw ⊢
  have hdl : (c :: d').length ≤ 65536 := by simp only [List.length_drop] at htw; omega
  have hnl : i + (c :: d').length ≤ bs.length := by simp only [List.length_drop] at htw; omega
  generalize hn : i + (c :: d').length = n at hw hd hnl ⊢
  generalize hok : numOk (c :: d') = ok
  -- up to the look ahead
  have step : ∀ (R : LCode) (Q : LExit → AFr → Heap → Prop), (∀ fr, fr 0 = .optr k 0 0 0 → fr 2 = .optr H0.length 0 0 0 → fr 3 = .p (.bool ok) → vc Tr R Q fr (H0.set k (rd bs n) ++ [wordE 5 (c :: d')])) →
      vc Tr (.seq numA (.seq numB (.seq numC R))) Q (initFr [.optr k 0 0 0]) (H0.set k (rd bs i)) := by
    intro R Q hq
    unfold wordE at hw hq
    cases h1 : ((c :: d' : List UInt8) == [48]) with
    | true =>
      have : ok = true := by rw [← hok, numOk, h1]; rfl
      subst this
      simp [numA, numB, numC, lf36, fillA, hkl, hp_new, hp_rd, hp_setw, hp_setr, Tr_30, hw, binS, h1, -List.cons_beq_cons]
      refine hq _ ?_ ?_ ?_ <;> simp
    | false =>
      have : ok = ((c.toNat : Int) != 48) := by rw [← hok, numOk, h1]; rfl
      subst this
      simp [numA, numB, numC, lf36, fillA, hkl, hp_new, hp_rd, hp_setw, hp_setr, Tr_30, hw, binS, h1, -List.cons_beq_cons]
      refine hq _ ?_ ?_ ?_ <;> simp
  refine step _ _ fun fr h0 h2 h3 => ?_
  rw [vc_seq, vc_seq]
  have hQ : ∀ fr, fr 0 = .optr k 0 0 0 → fr 2 = .optr H0.length 0 0 0 → fr 3 = .p (.bool ok) → vc Tr numLast (ownQ Tr [.cell 2 3 true, .slot 3] (.p (.tup [wordV 5 (c :: d') 0, .bool (ok && endOk (bs.drop n))])) (H0.set k (rd bs n))) fr (H0.set k (rd bs n) ++ [wordE 5 (c :: d')]) :=
    fun fr h0 h2 h3 => number_end hkl hb hnl 5 (c :: d') ok h0 h2 h3
  cases hr : bs.drop n with
  | nil =>
    have hnl' := drop_nil_at hr
    have hn1 : ¬ n + 1 < bs.length := by omega
    have hn2 : ¬ (n : Int) + 1 < bs.length := by omega
    have hnn : bs.length - ([] : List UInt8).length = n := by simp; omega
    rw [hr] at hQ
    simp only [hnn]
    unfold wordE at hQ ⊢
    simp [numPeek, lf36, h0, h2, h3, hkl, hp_new, hp_rd, hp_setw, hp_setr, hn1, hn2, wrap_succ (i := n) (by omega)]
    refine hQ _ ?_ ?_ ?_ <;> simp [h0, h2, h3]
  | cons a q =>
    obtain ⟨hlt, hge, hdn, hlen⟩ := drop_cons_at hr
    rw [hr] at hQ
    cases q with
    | nil =>
      have hnn : bs.length - [a].length = n := by simp at hlen ⊢; omega
      have hn1 : ¬ n + 1 < bs.length := by simp at hlen; omega
      have hn2 : ¬ (n : Int) + 1 < bs.length := by omega
      simp only [hnn]
      unfold wordE at hQ ⊢
      simp [numPeek, lf36, h0, h2, h3, hkl, hp_new, hp_rd, hp_setw, hp_setr, hn1, hn2, wrap_succ (i := n) (by omega)]
      refine hQ _ ?_ ?_ ?_ <;> simp [h0, h2, h3]
    | cons b r =>
      have hge1 : bs[n + 1]? = some b := (drop_cons_at hdn).2.1
      have hn1 : n + 1 < bs.length := (drop_cons_at hdn).1
      have hn2 : (n : Int) + 1 < bs.length := by omega
      have ht1 : ((n : Int) + 1).toNat = n + 1 := by omega
      have ht2 : (0 : Int) ≤ (n : Int) + 1 := by omega
      have hnn : bs.length - (a :: b :: r).length = n := by simp at hlen ⊢; omega
      have ha46 : ((a.toNat : Int) == 46) = (a == 46) := by rw [show (46 : Int) = ((46 : UInt8).toNat : Int) from rfl, u8_beq]
      simp only
      by_cases ha : a = 46
      · subst ha
        cases hdb : isDigit b with
        | false =>
          have hc : ¬ ((46 : UInt8) = 46 ∧ false = true) := by simp
          rw [if_neg hc]
          simp only [hnn]
          unfold wordE at hQ ⊢
          simp [numPeek, lf36, h0, h2, h3, hkl, hp_new, hp_rd, hp_setw, hp_setr, hn2, hge, hge1, ht1, ht2, hdb, wrap_succ (i := n) (by omega), Tr_mu, Tr_27, sByte_b8]
          refine hQ _ ?_ ?_ ?_ <;> simp [h0, h2, h3]
        | true =>
          rw [if_pos ⟨rfl, rfl⟩]
          simp only
          have hsuf : (b :: r).dropWhile isDigit <:+ bs := (List.dropWhile_suffix isDigit).trans (by rw [← hdn]; exact List.drop_suffix _ _)
          have hn2e : bs.drop (bs.length - ((b :: r).dropWhile isDigit).length) = (b :: r).dropWhile isDigit := (List.suffix_iff_eq_drop.1 hsuf).symm
          have fr1 : ∀ fr, fr 0 = .optr k 0 0 0 → fr 2 = .optr H0.length 0 0 0 → fr 3 = .p (.bool ok) → vc Tr numFrac (seqQ Tr numLast (ownQ Tr [.cell 2 3 true, .slot 3] (.p (.tup [wordV 6 (c :: d' ++ [46] ++ (b :: r).takeWhile isDigit) 0, .bool (ok && endOk ((b :: r).dropWhile isDigit))])) (H0.set k (rd bs (bs.length - ((b :: r).dropWhile isDigit).length))))) fr (H0.set k (rd bs n) ++ [wordE 5 (c :: d')]) := by
            intro fr h0 h2 h3
            refine number_frac hkl hb (c :: d') hdl hr h0 h2 fun fr' g0 g2 g3 => ?_
            rw [seqQ_normal]
            have := number_end hkl hb (n := bs.length - ((b :: r).dropWhile isDigit).length) (by omega) 6 (c :: d' ++ [46] ++ (b :: r).takeWhile isDigit) ok g0 g2 (g3.trans h3)
            rwa [hn2e] at this
          generalize (b :: r).dropWhile isDigit = q at fr1 ⊢
          generalize (b :: r).takeWhile isDigit = f at fr1 ⊢
          unfold wordE at fr1 ⊢
          simp [numPeek, lf36, h0, h2, h3, hkl, hp_new, hp_rd, hp_setw, hp_setr, hn2, hge, hge1, ht1, ht2, hdb, wrap_succ (i := n) (by omega), Tr_mu, Tr_27, sByte_b8]
          have := fr1
          simp only [List.append_assoc, List.cons_append, List.nil_append] at this
          refine this _ ?_ ?_ ?_ <;> simp [h0, h2, h3]
      · have hc : ¬ (a = 46 ∧ isDigit b = true) := fun h => ha h.1
        have hab : ((a.toNat : Int) == 46) = false := by rw [ha46]; simpa using ha
        rw [if_neg hc]
        simp only [hnn]
        unfold wordE at hQ ⊢
        simp [numPeek, lf36, h0, h2, h3, hkl, hp_new, hp_rd, hp_setw, hp_setr, hn2, hge, hab, wrap_succ (i := n) (by omega)]
        refine hQ _ ?_ ?_ ?_ <;> simp [h0, h2, h3]
end Go.Proofs.YthnkmebnigefaaaDoor

/-
  lex: text.
-/
namespace Go.Proofs.YthnkmebnigefaaaDoor
open Go Go.Abs
variable {base : Prot}
set_option maxRecDepth 20000
attribute [local simp] pureS touchV freezeL fuel shiftV

/-- A text, behind its first quote: what stands in it, if it ends, and what is left. -/
def textS : List UInt8 → Option (List UInt8) × List UInt8
  | [] => (none, [])
  | [c] => if c = 34 then (some [], []) else if isInner c = true then (none, []) else (none, [c])
  | c :: d :: r => if c = 34 then (if d = 34 then ((textS r).1.map (34 :: ·), (textS r).2) else (some [], d :: r))
    else if isInner c = true then ((textS (d :: r)).1.map (c :: ·), (textS (d :: r)).2) else (none, c :: d :: r)

theorem inText_ne {c : UInt8} (h : isInText c = true) : c ≠ 34 ∧ isInner c = true := by
  unfold isInText at h
  simp only [Bool.and_eq_true] at h
  refine ⟨?_, h.2⟩
  rintro rfl
  simp at h

theorem inText_not {c : UInt8} (h : isInText c = false) (h2 : c ≠ 34) : isInner c = false := by
  unfold isInText at h
  have : ((c.toNat : Int) != 34) = true := by rw [show (34 : Int) = ((34 : UInt8).toNat : Int) from rfl, u8_bne]; simpa using h2
  simpa [this] using h

theorem textS_in {c : UInt8} (h : isInText c = true) (l : List UInt8) : textS (c :: l) = ((textS l).1.map (c :: ·), (textS l).2) := by
  obtain ⟨h1, h2⟩ := inText_ne h
  cases l with
  | nil => simp [textS, h1, h2]
  | cons d r => rw [textS, if_neg h1, if_pos h2]

theorem textS_seg : ∀ (s r : List UInt8), (∀ c ∈ s, isInText c = true) → textS (s ++ r) = ((textS r).1.map (s ++ ·), (textS r).2)
  | [], r, _ => by simp
  | c :: s, r, h => by
    rw [List.cons_append, textS_in (h c (by simp)), textS_seg s r fun c hc => h c (by simp [hc])]
    simp only [Option.map_map]
    rfl

theorem mem_takeWhile {α : Type} {p : α → Bool} : ∀ {l : List α} {c : α}, c ∈ l.takeWhile p → p c = true
  | [], _, h => by simp at h
  | a :: l, c, h => by
    rw [List.takeWhile_cons] at h
    split at h
    · rename_i ha
      rcases List.mem_cons.1 h with rfl | h
      · exact ha
      · exact mem_takeWhile h
    · simp at h

theorem dropWhile_head {α : Type} {p : α → Bool} : ∀ {l : List α} {c : α} {r : List α}, l.dropWhile p = c :: r → p c = false
  | [], _, _, h => by simp at h
  | a :: l, c, r, h => by
    rw [List.dropWhile_cons] at h
    split at h
    · exact dropWhile_head h
    · rename_i ha
      cases h
      simpa using ha

/-- What textS comes to at the next byte that is none of a text's. -/
theorem textS_next (l : List UInt8) : textS l = match l.dropWhile isInText with
    | [] => (none, [])
    | c :: q => if c = 34 then (match q with
      | d :: q' => if d = 34 then ((textS q').1.map ((l.takeWhile isInText ++ [34]) ++ ·), (textS q').2) else (some (l.takeWhile isInText), d :: q')
      | [] => (some (l.takeWhile isInText), [])) else (none, c :: q) := by
  have h := textS_seg (l.takeWhile isInText) (l.dropWhile isInText) fun c hc => mem_takeWhile hc
  rw [List.takeWhile_append_dropWhile] at h
  rw [h]
  cases hr : l.dropWhile isInText with
  | nil => simp [textS]
  | cons c q =>
    have hc := dropWhile_head hr
    simp only
    by_cases h34 : c = 34
    · subst h34
      rw [if_pos rfl]
      cases q with
      | nil => simp [textS]
      | cons d q' =>
        simp only [textS, if_true]
        split
        · simp only [Option.map_map]
          congr 2
          funext x
          simp
        · simp
    · rw [if_neg h34]
      have := inText_not hc h34
      cases q with
      | nil => simp [textS, h34, this]
      | cons d q' => simp [textS, h34, this]

def texS (l : List UInt8) : PVal × List UInt8 := match textS (l.drop 1) with
  | (some t, q) => (.tup [wordV 7 t 0, .bool true], q)
  | (none, q) => (.tup [wordV 0 [] 0, .bool false], q)

theorem textS_len : ∀ l : List UInt8, (textS l).2.length ≤ l.length
  | [] => by simp [textS]
  | [c] => by
    simp only [textS]
    split
    · simp
    · split <;> simp
  | c :: d :: r => by
    have h1 := textS_len r
    have h2 := textS_len (d :: r)
    simp only [textS]
    split
    · split
      · simp; omega
      · simp
    · split
      · simp at h2 ⊢; omega
      · simp

def Tt : Tab := (((Tab.none.own 30 (rdM whileF)).own 40 wsM).own 42 (strM 61 5)).own 43 wbM
theorem Tt_ok : TabOk Tryd.prog base Tt := Tab.own_ok (Tab.own_ok (Tab.own_ok (Tab.own_ok Tab.none_ok while_ok) ws_ok) bstr_ok) wb_ok
theorem Tt_30 (a : List AVal) (H : Heap) : Tt.mu 30 a H = rdM whileF a H := (rfl)
theorem Tt_40 (a : List AVal) (H : Heap) : Tt.mu 40 a H = wsM a H := (rfl)
theorem Tt_42 (a : List AVal) (H : Heap) : Tt.mu 42 a H = strM 61 5 a H := (rfl)
theorem Tt_43 (a : List AVal) (H : Heap) : Tt.mu 43 a H = wbM a H := (rfl)

/-- The own arrays while a text is read. -/
structure TextH (H0 : Heap) (k : Nat) (bs : List UInt8) (H : Heap) (i : Nat) (out : List UInt8) : Prop where
  len : H0.length + 2 ≤ H.length
  rd : H[k]? = some (rd bs i)
  old : ∀ q, q < H0.length → q ≠ k → H[q]? = H0[q]?
  word : H[H0.length]? = some (wordE 0 [])
  bld : IsBld H (H0.length + 1) out

theorem heap_end {H0 H : Heap} {k : Nat} {e : Ent} (hkl : k < H0.length) (hlen : H0.length ≤ H.length) (hk : H[k]? = some e) (hold : ∀ q, q < H0.length → q ≠ k → H[q]? = H0[q]?) : ∃ E, H = H0.set k e ++ E := by
  refine ⟨H.drop H0.length, ?_⟩
  have : H.take H0.length = H0.set k e := by
    apply List.ext_getElem?
    intro q
    rw [List.getElem?_take]
    split
    · rename_i hq
      by_cases hqk : k = q
      · subst hqk; rw [hk, List.getElem?_set_self hkl]
      · rw [hold q hq (Ne.symm hqk), List.getElem?_set_ne hqk]
    · rename_i hq
      rw [List.getElem?_eq_none (by simp; omega)]
  rw [← this, List.take_append_drop]

theorem IsBld.set {H : Heap} {b k : Nat} {e : Ent} {out : List UInt8} (h : IsBld H b out) (hk : k < b) : IsBld (H.set k e) b out := by
  obtain ⟨a, buf, h1, h2, h3⟩ := h
  refine ⟨a, buf, by rw [List.getElem?_set_ne (by omega)]; exact h1, h2, ?_⟩
  rcases h3 with h3 | ⟨j, ver, q1, q2, q3⟩
  · exact .inl h3
  · exact .inr ⟨j, ver, q1, q2, by rw [List.getElem?_set_ne (by omega)]; exact q3⟩

theorem TextH.move {H0 : Heap} {k : Nat} {bs : List UInt8} {H : Heap} {i : Nat} {out : List UInt8} (h : TextH H0 k bs H i out) (hkl : k < H0.length) (n : Nat) : TextH H0 k bs (H.set k (Go.Proofs.YthnkmebnigefaaaDoor.rd bs n)) n out where
  len := by rw [List.length_set]; exact h.len
  rd := List.getElem?_set_self (List.getElem?_eq_some_iff.1 h.rd).1
  old := fun q hq hne => by rw [List.getElem?_set_ne (Ne.symm hne)]; exact h.old q hq hne
  word := by rw [List.getElem?_set_ne (by omega)]; exact h.word
  bld := h.bld.set (by omega)

theorem TextH.later {H0 : Heap} {k : Nat} {bs : List UInt8} {H H' : Heap} {i : Nat} {out out' : List UInt8} (h : TextH H0 k bs H i out) (hkl : k < H0.length) (hb : IsBld H' (H0.length + 1) out') (hsame : ∀ q, q < H0.length + 1 → H'[q]? = H[q]?) (hlen : H.length ≤ H'.length) : TextH H0 k bs H' i out' where
  len := Nat.le_trans h.len hlen
  rd := by rw [hsame k (by omega)]; exact h.rd
  old := fun q hq hne => by rw [hsame q (by omega)]; exact h.old q hq hne
  word := by rw [hsame _ (by omega)]; exact h.word
  bld := hb

theorem u8_bne34 (c : UInt8) : ((c.toNat : Int) != 34) = (c != 34) := by rw [show (34 : Int) = ((34 : UInt8).toNat : Int) from rfl, u8_bne]

theorem text_ok : MuOk Tryd.prog base 34 (rdM (remF (fun _ => true) texS)) := by
  refine reader_of_vc2 Tt_ok low34 fun k rest bs i x n0 H0 hkl hF => ?_
  obtain ⟨rfl, hi, hb, _, rfl, rfl⟩ := remF_some hF
  refine ⟨by simp [lf34], ?_⟩
  have hdd : (bs.drop i).drop 1 = bs.drop (i + 1) := by simp
  unfold texS
  rw [hdd]
  simp [lf34]
  simp only [lf34_B0, vc_block]
  refine loop_ind (fun fr H => ∃ j out, TextH H0 k bs H j out ∧ j < bs.length ∧ out.length ≤ j ∧ fr 0 = .optr k 0 0 0 ∧ fr 2 = .optr H0.length 0 0 0 ∧ fr 4 = .optr (H0.length + 1) 0 0 0 ∧
      textS (bs.drop (i + 1)) = ((textS (bs.drop (j + 1))).1.map (out ++ ·), (textS (bs.drop (j + 1))).2))
    (fun fr H => match H[k]? with | some e => (match unrd e with | some (_, j) => bs.length - j | none => 0) | none => 0) ⟨i, [], ?_, hi, by simp, by simp, by simp, by simp, by simp⟩ ?_
  · refine ⟨by simp, ?_, ?_, ?_, ?_⟩
    · rw [List.getElem?_append_left (by rw [List.length_set]; exact hkl), List.getElem?_set_self hkl]
    · intro q hq hne
      rw [List.getElem?_append_left (by rw [List.length_set]; exact hq), List.getElem?_set_ne (Ne.symm hne)]
    · simp [wordE, List.getElem?_append]
    · exact ⟨.p .nilp, .tight [], by simp [bldE, List.getElem?_append], .inl rfl, .inl ⟨rfl, rfl⟩⟩
  rintro fr H ⟨j, out, hT, hj, hol, h0, h2, h4, hts⟩
  have hTk := hT.rd
  have hkH : k < H.length := (List.getElem?_eq_some_iff.1 hTk).1
  -- past the quote, and on
  have hT1 := hT.move hkl (j + 1)
  have hw := while_at (g := 41) (p := isInText) hT1.rd rfl (by omega) hb
  have hd := drop_tw isInText bs (j + 1)
  have htw := tw_dw isInText (bs.drop (j + 1))
  rw [List.set_set] at hw
  rw [textS_next (bs.drop (j + 1))] at hts
  generalize hn : (j + 1) + ((bs.drop (j + 1)).takeWhile isInText).length = n at hw hd
  rw [← hd] at htw hts
  simp only [List.length_drop] at htw
  have hT2 := hT.move hkl n
  generalize (bs.drop (j + 1)).takeWhile isInText = s at hw hts htw hn
  obtain ⟨H3, hws, hb3, hs3, hl3⟩ := ws_bld hT2.bld (s := s) (by omega)
  have hT3 := hT2.later hkl hb3 hs3 hl3
  have h3k := hT3.rd
  have h3m := hT3.word
  have hkH3 : k < H3.length := (List.getElem?_eq_some_iff.1 h3k).1
  have hmH3 : H0.length < H3.length := (List.getElem?_eq_some_iff.1 h3m).1
  unfold wordE at h3m
  have hsk : ∀ e, (H.set k e)[k]? = some e := fun e => List.getElem?_set_self hkH
  have hsk3 : ∀ e, (H3.set k e)[k]? = some e := fun e => List.getElem?_set_self hkH3
  have hsm3 : ∀ e, (H3.set H0.length e)[H0.length]? = some e := fun e => List.getElem?_set_self hmH3
  have hkm : ¬ k = H0.length := by omega
  have hmk : ¬ H0.length = k := by omega
  cases hr : bs.drop n with
  | nil =>
    have hnl := drop_nil_at hr
    have hnn : n = bs.length := by omega
    rw [hr] at hts
    simp only [Option.map_none] at hts
    rw [hts]
    simp [h0, h2, h4, hTk, hsk, wrap_succ (i := j) (by omega), Tt_30, hw, Tt_40, hws, h3k, h3m, hnl, ownQ, hsm3, wordV]
    refine heap_end hkl ?_ ?_ ?_
    · have := hT3.len; simp; omega
    · rw [← hnn]; simp [hmk, h3k]
    · intro q hq hne
      rw [List.getElem?_set_ne (by omega)]; exact hT3.old q hq hne
  | cons c q =>
    obtain ⟨hlt, hge, hdn, hlen⟩ := drop_cons_at hr
    have hnl : ¬ bs.length ≤ n := by omega
    rw [hr] at hts
    simp only at hts
    by_cases hc : c = 34
    · subst hc
      rw [if_pos rfl] at hts
      have hT4 := hT3.move hkl (n + 1)
      have h4k := hT4.rd
      have h4m := hT4.word
      unfold wordE at h4m
      have hg : (((34 : UInt8).toNat : Int) != 34) = false := rfl
      cases q with
      | nil =>
        have hnl2 : bs.length ≤ n + 1 := by simp at hlen; omega
        have hnl3 : (bs.length : Int) ≤ (n : Int) + 1 := by omega
        have hnn : n + 1 = bs.length := by simp at hlen; omega
        obtain ⟨H5, hst, hs5, hl5⟩ := str_bld hT4.bld
        have h5k : H5[k]? = some (rd bs (n + 1)) := by rw [hs5 k (by omega)]; exact h4k
        have h5m : H5[H0.length]? = some (wordE 0 []) := by rw [hs5 _ (by omega)]; exact hT4.word
        have hmH5 : H0.length < H5.length := (List.getElem?_eq_some_iff.1 h5m).1
        have hsm5 : ∀ e, (H5.set H0.length e)[H0.length]? = some e := fun e => List.getElem?_set_self hmH5
        unfold wordE at h5m
        simp only [Option.map_some] at hts
        rw [hts]
        simp [h0, h2, h4, hTk, hsk, wrap_succ (i := j) (by omega), wrap_succ (i := n) (by omega), Tt_30, hw, Tt_40, hws, h3k, hsk3, h3m, hnl, hge, hnl3, Tt_42, hst, h5m, fillA, ownQ, hsm5, wordV]
        refine heap_end hkl ?_ ?_ ?_
        · simp at hl5 ⊢; omega
        · rw [← hnn]; simp [hmk, h5k]
        · intro q hq hne
          rw [List.getElem?_set_ne (by omega), hs5 q (by omega)]; exact hT4.old q hq hne
      | cons d q' =>
        obtain ⟨hlt2, hge2, hdn2, hlen2⟩ := drop_cons_at hdn
        have hnl2 : ¬ bs.length ≤ n + 1 := by omega
        have hnl3 : ¬ (bs.length : Int) ≤ (n : Int) + 1 := by omega
        have ht1 : ((n : Int) + 1).toNat = n + 1 := by omega
        have ht2 : (0 : Int) ≤ (n : Int) + 1 := by omega
        by_cases hd34 : d = 34
        · subst hd34
          simp only [if_true] at hts
          obtain ⟨H5, hwb, hb5, hs5, hl5⟩ := wb_bld (c := 34) hT4.bld (by simp; omega)
          have hT5 := hT4.later hkl hb5 hs5 hl5
          have h5k := hT5.rd
          rw [show (((34 : UInt8).toNat : Nat) : Int) = 34 from rfl] at hwb
          simp [h0, h2, h4, hTk, hsk, wrap_succ (i := j) (by omega), wrap_succ (i := n) (by omega), Tt_30, hw, Tt_40, hws, h3k, hsk3, hnl, hge, hnl3, hge2, ht1, ht2, Tt_43, hwb, h5k]
          refine ⟨⟨n + 1, out ++ s ++ [34], hT5, hlt2, ?_, ?_⟩, by omega⟩
          · simp; omega
          · rw [hts, hdn2]
            simp only [Option.map_map]
            congr 2
            funext x
            simp
        · simp only [if_neg hd34] at hts
          have hg2 : ((d.toNat : Int) != 34) = true := by rw [u8_bne34]; simpa using hd34
          have hnn : bs.length - (d :: q').length = n + 1 := by simp at hlen ⊢; omega
          obtain ⟨H5, hst, hs5, hl5⟩ := str_bld hT4.bld
          have h5k : H5[k]? = some (rd bs (n + 1)) := by rw [hs5 k (by omega)]; exact h4k
          have h5m : H5[H0.length]? = some (wordE 0 []) := by rw [hs5 _ (by omega)]; exact hT4.word
          have hmH5 : H0.length < H5.length := (List.getElem?_eq_some_iff.1 h5m).1
          have hsm5 : ∀ e, (H5.set H0.length e)[H0.length]? = some e := fun e => List.getElem?_set_self hmH5
          unfold wordE at h5m
          simp only [Option.map_some] at hts
          rw [hts]
          simp only [hnn]
          simp [h0, h2, h4, hTk, hsk, wrap_succ (i := j) (by omega), wrap_succ (i := n) (by omega), Tt_30, hw, Tt_40, hws, h3k, hsk3, h3m, hnl, hge, hnl3, hge2, ht1, ht2, hg2, Tt_42, hst, h5m, fillA, ownQ, hsm5, wordV]
          refine heap_end hkl ?_ ?_ ?_
          · simp at hl5 ⊢; omega
          · simp [hmk, h5k]
          · intro q hq hne
            rw [List.getElem?_set_ne (by omega), hs5 q (by omega)]; exact hT4.old q hq hne
    · rw [if_neg hc] at hts
      have hg : ((c.toNat : Int) != 34) = true := by rw [u8_bne34]; simpa using hc
      have hnn : bs.length - (c :: q).length = n := by simp; omega
      simp only [Option.map_none] at hts
      rw [hts]
      simp only [hnn]
      simp [h0, h2, h4, hTk, hsk, wrap_succ (i := j) (by omega), Tt_30, hw, Tt_40, hws, h3k, h3m, hnl, hge, hg, ownQ, hsm3, wordV]
      refine heap_end hkl ?_ ?_ ?_
      · have := hT3.len; simp; omega
      · simp [hmk, h3k]
      · intro q hq hne
        rw [List.getElem?_set_ne (by omega)]; exact hT3.old q hq hne
end Go.Proofs.YthnkmebnigefaaaDoor

/-
  lex: word.
-/
namespace Go.Proofs.YthnkmebnigefaaaDoor
open Go Go.Abs
variable {base : Prot}
set_option maxRecDepth 20000
attribute [local simp] pureS touchV freezeL fuel shiftV

/-- An answer of a method: a word, and whether it is one. -/
def IsAns (x : PVal) : Prop := ∃ kd t ok, x = .tup [wordV kd t 0, .bool ok]

theorem texS_ans (l : List UInt8) : IsAns (texS l).1 := by
  unfold texS
  split <;> exact ⟨_, _, _, rfl⟩
theorem quoS_ans (l : List UInt8) : IsAns (quoS l).1 := by
  unfold quoS
  split
  · exact ⟨_, _, _, rfl⟩
  · split <;> exact ⟨_, _, _, rfl⟩
theorem numS_ans (l : List UInt8) : IsAns (numS l).1 := by
  unfold numS
  simp only
  split
  · split <;> exact ⟨_, _, _, rfl⟩
  · exact ⟨_, _, _, rfl⟩

/-- A word, from its first byte on. -/
def wordS : List UInt8 → PVal × List UInt8
  | [] => (.tup [wordV 0 [] 0, .bool false], [])
  | c :: r => if c = 40 then (.tup [wordV 1 [] 0, .bool true], r)
    else if c = 41 then (.tup [wordV 2 [] 0, .bool true], r)
    else if c = 34 then texS (c :: r)
    else if c = 124 then quoS (c :: r)
    else if c = 58 then (.tup [wordV 4 (r.takeWhile isSign) 0, .bool (!(r.takeWhile isSign == []))], r.dropWhile isSign)
    else if isDigit c = true then numS (c :: r)
    else (.tup [wordV 3 ((c :: r).takeWhile isSign) 0, .bool (!((c :: r).takeWhile isSign == []))], (c :: r).dropWhile isSign)

theorem meth_at {H : Heap} {k : Nat} {P : List UInt8 → Bool} {g : List UInt8 → PVal × List UInt8} {bs : List UInt8} {i : Nat} (hk : H[k]? = some (rd bs i)) (hi : i < bs.length) (hb : bs.length ≤ 65536) (hP : P (bs.drop i) = true) :
    rdM (remF P g) [.optr k 0 0 0] H = some (.p (g (bs.drop i)).1, H.set k (rd bs (bs.length - (g (bs.drop i)).2.length))) := by
  refine rdM_of hk ?_
  simp [remF, hi, hb, hP]

def Tx : Tab := ((((Tab.none.with 27 (pureS (sByte isDigit))).own 30 (rdM whileF)).own 34 (rdM (remF (fun _ => true) texS))).own 35 (rdM (remF (fun _ => true) quoS))).own 36 (rdM (remF headDigit numS))
theorem Tx_ok : TabOk Tryd.prog base Tx := Tab.own_ok (Tab.own_ok (Tab.own_ok (Tab.own_ok (Tab.with_ok Tab.none_ok digit_ok) while_ok) text_ok) quoted_ok) number_ok
theorem Tx_30 (a : List AVal) (H : Heap) : Tx.mu 30 a H = rdM whileF a H := (rfl)
theorem Tx_34 (a : List AVal) (H : Heap) : Tx.mu 34 a H = rdM (remF (fun _ => true) texS) a H := (rfl)
theorem Tx_35 (a : List AVal) (H : Heap) : Tx.mu 35 a H = rdM (remF (fun _ => true) quoS) a H := (rfl)
theorem Tx_36 (a : List AVal) (H : Heap) : Tx.mu 36 a H = rdM (remF headDigit numS) a H := (rfl)
theorem Tx_mu27 (a : List AVal) (H : Heap) : Tx.mu 27 a H = none := (rfl)
theorem Tx_27 : Tx.fn 27 = pureS (sByte isDigit) := (rfl)

theorem word_ok : MuOk Tryd.prog base 19 (rdM (remF (fun _ => true) wordS)) := by
  refine reader_of_vc2 Tx_ok low19 fun k rest bs i x n0 H0 hkl hF => ?_
  obtain ⟨rfl, hi, hb, _, rfl, rfl⟩ := remF_some hF
  refine ⟨by simp [lf19], ?_⟩
  cases hr : bs.drop i with
  | nil => have := drop_nil_at hr; omega
  | cons c r =>
    obtain ⟨_, hge, hdn, hlen⟩ := drop_cons_at hr
    have hk0 : (H0.set k (rd bs i) ++ [wordE 0 []])[k]? = some (rd bs i) := hp_rd hkl
    have eq : ∀ m : UInt8, ((c.toNat : Int) == (m.toNat : Int)) = decide (c = m) := fun m => by rw [u8_beq]; by_cases h : c = m <;> simp [h]
    have e40 := eq 40; have e41 := eq 41; have e34 := eq 34; have e124 := eq 124; have e58 := eq 58
    rw [show (((40 : UInt8).toNat : Nat) : Int) = 40 from rfl] at e40
    rw [show (((41 : UInt8).toNat : Nat) : Int) = 41 from rfl] at e41
    rw [show (((34 : UInt8).toNat : Nat) : Int) = 34 from rfl] at e34
    rw [show (((124 : UInt8).toNat : Nat) : Int) = 124 from rfl] at e124
    rw [show (((58 : UInt8).toNat : Nat) : Int) = 58 from rfl] at e58
    clear eq
    have hnr : bs.length - r.length = i + 1 := by omega
    simp only [wordS]
    by_cases h40 : c = 40
    · subst h40
      rw [if_pos rfl]
      simp only [hnr]
      unfold wordV
      simp [lf19, fillA, hkl, hp_new, hp_rd, hp_setw, hp_setr, hge, ownQ, wrap_succ (i := i) (by omega)]
    rw [if_neg h40]
    by_cases h41 : c = 41
    · subst h41
      rw [if_pos rfl]
      simp only [hnr]
      unfold wordV
      simp [lf19, fillA, hkl, hp_new, hp_rd, hp_setw, hp_setr, hge, ownQ, wrap_succ (i := i) (by omega)]
    rw [if_neg h41]
    by_cases h34 : c = 34
    · subst h34
      rw [if_pos rfl]
      have hm := meth_at (P := fun _ => true) (g := texS) hk0 hi hb rfl
      rw [hr, hp_setr hkl] at hm
      obtain ⟨kd, t, ok, ha⟩ := texS_ans (34 :: r)
      rw [ha] at hm ⊢
      generalize bs.length - (texS (34 :: r)).2.length = n at hm ⊢
      unfold wordE at hm
      unfold wordV at hm ⊢
      simp [lf19, fillA, hkl, hp_new, hp_rd, hp_setw, hp_setr, hge, ownQ, Tx_34, hm]
    rw [if_neg h34]
    by_cases h124 : c = 124
    · subst h124
      rw [if_pos rfl]
      have hm := meth_at (P := fun _ => true) (g := quoS) hk0 hi hb rfl
      rw [hr, hp_setr hkl] at hm
      obtain ⟨kd, t, ok, ha⟩ := quoS_ans (124 :: r)
      rw [ha] at hm ⊢
      generalize bs.length - (quoS (124 :: r)).2.length = n at hm ⊢
      unfold wordE at hm
      unfold wordV at hm ⊢
      simp [lf19, fillA, hkl, hp_new, hp_rd, hp_setw, hp_setr, hge, ownQ, Tx_35, hm]
    rw [if_neg h124]
    by_cases h58 : c = 58
    · subst h58
      rw [if_pos rfl]
      have hk1 : (H0.set k (rd bs (i + 1)) ++ [wordE 0 []])[k]? = some (rd bs (i + 1)) := hp_rd hkl
      have hw := while_at (g := 26) (p := isSign) hk1 rfl (by omega) hb
      have htw := tw_dw isSign r
      rw [hdn, hp_setr hkl] at hw
      have hn : i + 1 + (r.takeWhile isSign).length = bs.length - (r.dropWhile isSign).length := by omega
      rw [hn] at hw
      simp only
      generalize bs.length - (r.dropWhile isSign).length = n at hw ⊢
      generalize r.takeWhile isSign = s at hw ⊢
      unfold wordE at hw
      unfold wordV
      simp [lf19, fillA, hkl, hp_new, hp_rd, hp_setw, hp_setr, hge, ownQ, Tx_30, hw, binS, wrap_succ (i := i) (by omega)]
    rw [if_neg h58]
    cases hdc : isDigit c with
    | true =>
      rw [if_pos rfl]
      have hm := meth_at (P := headDigit) (g := numS) hk0 hi hb (by rw [hr]; exact hdc)
      rw [hr, hp_setr hkl] at hm
      obtain ⟨kd, t, ok, ha⟩ := numS_ans (c :: r)
      rw [ha] at hm ⊢
      generalize bs.length - (numS (c :: r)).2.length = n at hm ⊢
      unfold wordE at hm
      unfold wordV at hm ⊢
      simp [lf19, fillA, hkl, hp_new, hp_rd, hp_setw, hp_setr, hge, ownQ, Tx_36, hm, e40, e41, e34, e124, e58, h40, h41, h34, h124, h58, Tx_mu27, Tx_27, sByte_b8, hdc]
    | false =>
      rw [if_neg (by simp)]
      have hw := while_at (g := 26) (p := isSign) hk0 rfl (by omega) hb
      have htw := tw_dw isSign (c :: r)
      rw [hr, hp_setr hkl] at hw
      have hn : i + ((c :: r).takeWhile isSign).length = bs.length - ((c :: r).dropWhile isSign).length := by
        have : (c :: r).length = r.length + 1 := rfl
        omega
      rw [hn] at hw
      simp only
      generalize bs.length - ((c :: r).dropWhile isSign).length = n at hw ⊢
      generalize (c :: r).takeWhile isSign = s at hw ⊢
      unfold wordE at hw
      unfold wordV
      simp [lf19, fillA, hkl, hp_new, hp_rd, hp_setw, hp_setr, hge, ownQ, Tx_30, hw, binS, e40, e41, e34, e124, e58, h40, h41, h34, h124, h58, Tx_mu27, Tx_27, sByte_b8, hdc]
end Go.Proofs.YthnkmebnigefaaaDoor

/-
  lex: All.
-/
namespace Go.Proofs.YthnkmebnigefaaaDoor
open Go Go.Abs
variable {base : Prot}
set_option maxRecDepth 20000
attribute [local simp] pureS touchV freezeL fuel shiftV

theorem mapO_p (H : Heap) (n : Nat) : ∀ l : List PVal, mapO (resolveV H n) (l.map .p) = some l
  | [] => rfl
  | x :: l => by
    have : resolveV H n (.p x) = some x := by cases n <;> rfl
    simp only [List.map_cons, mapO, this, mapO_p H n l]

def sClone : List PVal → Option PVal
  | [.lst es] => match decB es with | some bs => if bs.length ≤ 65536 then some (.lst (bs.map b8)) else none | none => none
  | _ => none

theorem clone_ok : FnOk Tryd.prog base 17 (pureS sClone) := by
  refine pure_of_vc hmix Tab.none_ok globNone low17 fun args x hs hf => ?_
  unfold sClone at hs
  split at hs
  case h_2 => cases hs
  rename_i es
  cases hd : decB es with
  | none => rw [hd] at hs; cases hs
  | some bs =>
    rw [hd] at hs
    simp only at hs
    split at hs
    case isFalse => cases hs
    rename_i hb
    cases hs
    have := decB_some hd
    subst this
    refine ⟨by simp [lf17], ?_⟩
    have hm : maxLen = 9223372036854775807 := rfl
    have h1 : bs.length ≤ 140737488355328 := by omega
    have h2 : bs.length ≤ maxLen := by omega
    have hy : (List.map AVal.p (bs.map b8)).all (fun y => y.cells.length == 1 && y.cells.all AVal.isCell) = true := by
      rw [List.all_eq_true]
      intro x hx
      obtain ⟨y, hy, rfl⟩ := List.mem_map.1 hx
      obtain ⟨z, _, rfl⟩ := List.mem_map.1 hy
      rfl
    cases bs with
    | nil => simp [lf17, fillS]
    | cons b bs =>
      have e : ∀ G n, mapO (resolveV G n) (bs.map (AVal.p ∘ b8)) = some (bs.map b8) := fun G n => by
        rw [← List.map_map]; exact mapO_p _ _ _
      have ht : (bs.map (AVal.p ∘ b8)).take bs.length = bs.map (AVal.p ∘ b8) := List.take_of_length_le (by simp)
      simp only [List.length_cons] at h1 h2
      simp [lf17, fillS, h1, h2, e, ht]

/-! ### What All says -/

structure Wd where
  kind : Int
  text : List UInt8
  at_ : Nat

def Wd.v (w : Wd) : PVal := wordV w.kind w.text w.at_

def ansK : PVal → Int × List UInt8 × Bool
  | .tup [.agg [.int .i64 kd, .str t, _], .bool ok] => (kd, t, ok)
  | _ => (0, [], false)

theorem dropWhile_lt {p : UInt8 → Bool} {l : List UInt8} (h : l.takeWhile p ≠ []) : (l.dropWhile p).length < l.length := by
  have := tw_dw p l
  have h2 : 0 < (l.takeWhile p).length := List.length_pos_iff.2 h
  omega

/-- A word takes something. -/
theorem wordS_len (c : UInt8) (r : List UInt8) (h : (ansK (wordS (c :: r)).1).2.2 = true) : (wordS (c :: r)).2.length ≤ r.length := by
  simp only [wordS] at h ⊢
  by_cases h40 : c = 40
  · simp [h40]
  rw [if_neg h40] at h ⊢
  by_cases h41 : c = 41
  · simp [h41]
  rw [if_neg h41] at h ⊢
  by_cases h34 : c = 34
  · subst h34
    rw [if_pos rfl]
    have := textS_len r
    unfold texS
    simp only [List.drop_succ_cons, List.drop_zero]
    split <;> (rename_i q hq; rw [hq] at this; exact this)
  rw [if_neg h34] at h ⊢
  by_cases h124 : c = 124
  · subst h124
    rw [if_pos rfl]
    have := dropWhile_le isInBars r
    unfold quoS
    simp only [List.drop_succ_cons, List.drop_zero]
    split
    · simp
    · rename_i d q hq
      rw [hq] at this
      simp only [List.length_cons] at this
      split
      · show q.length ≤ _; omega
      · exact this
  rw [if_neg h124] at h ⊢
  by_cases h58 : c = 58
  · rw [if_pos h58]
    exact dropWhile_le isSign r
  rw [if_neg h58] at h ⊢
  cases hdc : isDigit c with
  | true =>
    rw [if_pos rfl]
    have h1 : ((c :: r).dropWhile isDigit).length ≤ r.length := by
      rw [List.dropWhile_cons, if_pos hdc]; exact dropWhile_le isDigit r
    unfold numS
    simp only
    split
    · rename_i a b q hq
      rw [hq] at h1
      simp only [List.length_cons] at h1
      split
      · have := dropWhile_le isDigit (b :: q)
        simp only [List.length_cons] at this
        show ((b :: q).dropWhile isDigit).length ≤ _
        omega
      · exact h1
    · exact h1
  | false =>
    rw [if_neg (by simp [hdc])]
    rw [if_neg (by simp [hdc])] at h
    simp only
    have h2 : (c :: r).takeWhile isSign ≠ [] := by
      intro e
      rw [e] at h
      simp [ansK, wordV] at h
    have := dropWhile_lt h2
    simp only [List.length_cons] at this
    omega

def lexN (N : Nat) : Nat → List UInt8 → Option (List Wd)
  | 0, _ => none
  | f + 1, l => match skip l with
    | [] => some []
    | c :: r => match ansK (wordS (c :: r)).1 with
      | (kd, t, true) => (lexN N f (wordS (c :: r)).2).map (⟨kd, t, N - (r.length + 1)⟩ :: ·)
      | _ => none

theorem skip_le (l : List UInt8) : (skip l).length ≤ l.length := by
  have : ∀ n l, (skipN n l).length ≤ l.length := by
    intro n
    induction n with
    | zero => intro l; exact Nat.le_refl _
    | succ n ih =>
      intro l
      simp only [skipN]
      have h1 := dropWhile_le isBlank l
      cases hd : l.dropWhile isBlank with
      | nil => simp
      | cons b r =>
        rw [hd] at h1
        simp only
        split
        · have h2 := ih ((b :: r).dropWhile isNoBreak)
          have h3 := dropWhile_le isNoBreak (b :: r)
          omega
        · exact h1
  exact this _ l

theorem lexN_eq (N : Nat) : ∀ (n m : Nat) (l : List UInt8), l.length < n → l.length < m → lexN N n l = lexN N m l
  | 0, _, _, h, _ => by omega
  | _, 0, _, _, h => by omega
  | n + 1, m + 1, l, hn, hm => by
    simp only [lexN]
    have h1 := skip_le l
    cases hs : skip l with
    | nil => rfl
    | cons c r =>
      rw [hs] at h1
      simp only [List.length_cons] at h1
      have h2 := wordS_len c r
      cases ha : ansK (wordS (c :: r)).1 with
      | mk kd p =>
        obtain ⟨t, ok⟩ := p
        rw [ha] at h2
        cases ok with
        | false => simp only [ha]
        | true =>
          have h2 := h2 rfl
          simp only [ha]
          rw [lexN_eq N n m _ (by omega) (by omega)]

/-- The words of what is left. -/
def lexL (N : Nat) (l : List UInt8) : Option (List Wd) := lexN N (l.length + 1) l

theorem lexL_eq (N : Nat) (l : List UInt8) : lexL N l = match skip l with
    | [] => some []
    | c :: r => match ansK (wordS (c :: r)).1 with
      | (kd, t, true) => (lexL N (wordS (c :: r)).2).map (⟨kd, t, N - (r.length + 1)⟩ :: ·)
      | _ => none := by
  unfold lexL
  rw [lexN]
  have h1 := skip_le l
  cases hs : skip l with
  | nil => rfl
  | cons c r =>
    rw [hs] at h1
    simp only [List.length_cons] at h1
    have h2 := wordS_len c r
    cases ha : ansK (wordS (c :: r)).1 with
    | mk kd p =>
      obtain ⟨t, ok⟩ := p
      rw [ha] at h2
      cases ok with
      | false => simp only [ha]
      | true =>
        have h2 := h2 rfl
        simp only [ha]
        rw [lexN_eq N l.length ((wordS (c :: r)).2.length + 1) _ (by omega) (by omega)]
end Go.Proofs.YthnkmebnigefaaaDoor

/-
  lex: All's contract.
-/
namespace Go.Proofs.YthnkmebnigefaaaDoor
open Go Go.Abs
variable {base : Prot}
set_option maxRecDepth 20000
attribute [local simp] pureS touchV freezeL fuel shiftV

/-! ### What is left is an end of what was there -/

theorem textS_suffix : ∀ l : List UInt8, (textS l).2 <:+ l
  | [] => by simp [textS]
  | [c] => by
    simp only [textS]
    split
    · exact List.nil_suffix
    · split
      · exact List.nil_suffix
      · exact List.suffix_refl _
  | c :: d :: r => by
    have h1 := textS_suffix r
    have h2 := textS_suffix (d :: r)
    simp only [textS]
    split
    · split
      · exact h1.trans ((List.suffix_cons d r).trans (List.suffix_cons c _))
      · exact List.suffix_cons c _
    · split
      · exact h2.trans (List.suffix_cons c _)
      · exact List.suffix_refl _

theorem wordS_suffix (l : List UInt8) : (wordS l).2 <:+ l := by
  cases l with
  | nil => exact List.suffix_refl _
  | cons c r =>
    simp only [wordS]
    split
    · exact List.suffix_cons c r
    split
    · exact List.suffix_cons c r
    split
    · unfold texS
      have := (textS_suffix r).trans (List.suffix_cons c r)
      simp only [List.drop_succ_cons, List.drop_zero]
      split <;> (rename_i q hq; rw [hq] at this; exact this)
    split
    · unfold quoS
      simp only [List.drop_succ_cons, List.drop_zero]
      have := (List.dropWhile_suffix isInBars (l := r)).trans (List.suffix_cons c r)
      split
      · exact List.nil_suffix
      · rename_i d q hq
        rw [hq] at this
        split
        · exact (List.suffix_cons d q).trans this
        · exact this
    split
    · exact (List.dropWhile_suffix isSign).trans (List.suffix_cons c r)
    split
    · unfold numS
      simp only
      have h1 := List.dropWhile_suffix isDigit (l := c :: r)
      split
      · rename_i a b q hq
        rw [hq] at h1
        split
        · exact (List.dropWhile_suffix isDigit).trans ((List.suffix_cons a _).trans h1)
        · exact h1
      · exact h1
    · exact List.dropWhile_suffix isSign

theorem skipN_suffix : ∀ (n : Nat) (l : List UInt8), skipN n l <:+ l
  | 0, l => List.suffix_refl _
  | n + 1, l => by
    simp only [skipN]
    have h1 := List.dropWhile_suffix isBlank (l := l)
    split
    · exact List.nil_suffix
    · rename_i b r hq
      rw [hq] at h1
      split
      · exact (skipN_suffix n _).trans ((List.dropWhile_suffix isNoBreak).trans h1)
      · exact h1
theorem skip_suffix (l : List UInt8) : skip l <:+ l := skipN_suffix _ l

theorem drop_suffix_len {α : Type} {q l : List α} (h : q <:+ l) : l.drop (l.length - q.length) = q := (List.suffix_iff_eq_drop.1 h).symm

theorem dropWhile_none {p : UInt8 → Bool} {c : UInt8} {r : List UInt8} (h : p c = false) : (c :: r).dropWhile p = c :: r := by rw [List.dropWhile_cons, h]; rfl

/-- Behind blanks and notes there are none. -/
theorem skip_skip : ∀ (n : Nat) (l : List UInt8), l.length < n → skip (skip l) = skip l
  | 0, _, h => by omega
  | n + 1, l, h => by
    have h1 := dropWhile_le isBlank l
    cases hd : l.dropWhile isBlank with
    | nil => rw [skip_eq l, hd]; rfl
    | cons b r =>
      rw [hd] at h1
      simp only [List.length_cons] at h1
      have e : skip l = if b = 59 then skip ((b :: r).dropWhile isNoBreak) else b :: r := by rw [skip_eq l, hd]
      rw [e]
      split
      · rename_i hb
        subst hb
        have h2 : ((59 :: r : List UInt8).dropWhile isNoBreak).length ≤ r.length := by
          rw [List.dropWhile_cons, show isNoBreak 59 = true from by decide]
          exact dropWhile_le _ _
        exact skip_skip n _ (by omega)
      · rename_i hb
        rw [skip_eq, dropWhile_none (dropWhile_head hd)]
        simp only
        rw [if_neg hb]

/-! ### The words so far -/

def OutOk (x : AVal) (H : Heap) (ws : List PVal) : Prop := (x = .tight [] ∧ ws = []) ∨ ∃ j ver, x = .own j 0 ws.length ver ∧ 0 < j ∧ H[j]? = some ⟨3, ver, false, ws.map .p, 41⟩

theorem OutOk.keep {x : AVal} {H H' : Heap} {ws : List PVal} (h : OutOk x H ws) (hs : ∀ j, 0 < j → j < H.length → H'[j]? = H[j]?) : OutOk x H' ws := by
  rcases h with h | ⟨j, ver, h1, h2, h3⟩
  · exact .inl h
  · exact .inr ⟨j, ver, h1, h2, by rw [hs j h2 (List.getElem?_eq_some_iff.1 h3).1]; exact h3⟩

theorem OutOk.app {x : AVal} {G : Heap} {ws : List PVal} (h : OutOk x G ws) (hG : 0 < G.length) (hn : ws.length ≤ 65536) (a : Int) (t : List UInt8) (b : Int) :
    ∃ x' G', appV 3 32 41 x [.p (.agg [.int .i64 a, .str t, .int .i64 b])] G = some (x', G') ∧ OutOk x' G' (ws ++ [wordV a t b]) ∧ G'[0]? = G[0]? := by
  have hm : maxLen = 9223372036854775807 := rfl
  rcases h with ⟨rfl, rfl⟩ | ⟨j, ver, rfl, hj, hk⟩
  · refine ⟨.own G.length 0 1 0, G ++ [⟨3, 0, false, [.p (wordV a t b)], 41⟩], ?_, .inr ⟨G.length, 0, rfl, hG, by simp⟩, by rw [List.getElem?_append_left hG]⟩
    simp [appV, hm, wordV]
  · have hjl := (List.getElem?_eq_some_iff.1 hk).1
    refine ⟨.own j 0 (ws.length + 1) (ver + 1), G.set j ⟨3, ver + 1, false, ws.map .p ++ [.p (wordV a t b)], 41⟩, ?_, .inr ⟨j, ver + 1, by simp, hj, by simp [hjl]⟩, by rw [List.getElem?_set_ne (by omega)]⟩
    simp [appV, hk, hm, wordV]
    omega

theorem OutOk.res {x : AVal} {H : Heap} {ws : List PVal} (h : OutOk x H ws) (n : Nat) : resolveV H (n + 1) x = some (.lst ws) := by
  rcases h with ⟨rfl, rfl⟩ | ⟨j, ver, rfl, hj, hk⟩
  · rfl
  · simp only [resolveV, hk]
    have : (ws.map AVal.p).take ws.length = ws.map .p := List.take_of_length_le (by simp)
    simp [this, mapO_p]

/-! ### All -/

def allS (bs : List UInt8) : List Wd × Int := if 65536 < bs.length then ([], 4) else match lexL bs.length bs with
  | some ws => (ws, 0)
  | none => ([], 2)

def sAll : List PVal → Option PVal
  | [.lst es] => match decB es with
    | some bs => some (.tup [.lst ((allS bs).1.map Wd.v), .int .i64 (allS bs).2])
    | none => none
  | _ => none

def Ta : Tab := ((Tab.none.with 17 (pureS sClone)).own 18 (rdM blankF)).own 19 (rdM (remF (fun _ => true) wordS))
theorem Ta_ok : TabOk Tryd.prog base Ta := Tab.own_ok (Tab.own_ok (Tab.with_ok Tab.none_ok clone_ok) blank_ok) word_ok
theorem Ta_18 (a : List AVal) (H : Heap) : Ta.mu 18 a H = rdM blankF a H := (rfl)
theorem Ta_19 (a : List AVal) (H : Heap) : Ta.mu 19 a H = rdM (remF (fun _ => true) wordS) a H := (rfl)
theorem Ta_mu17 (a : List AVal) (H : Heap) : Ta.mu 17 a H = none := (rfl)
theorem Ta_17 : Ta.fn 17 = pureS sClone := (rfl)

theorem blank_at {H : Heap} {k : Nat} {bs : List UInt8} {i : Nat} (hk : H[k]? = some (rd bs i)) (hi : i ≤ bs.length) (hb : bs.length ≤ 65536) :
    rdM blankF [.optr k 0 0 0] H = some (.p (.tup []), H.set k (rd bs (bs.length - (skip (bs.drop i)).length))) := by
  refine rdM_of hk ?_
  simp [blankF, hi, hb]

theorem sClone_at {bs : List UInt8} (hb : bs.length ≤ 65536) : sClone [.lst (bs.map b8)] = some (.lst (bs.map b8)) := by
  simp [sClone, decB_map, hb]

theorem all_ok : FnOk Tryd.prog base 9 (pureS sAll) := by
  refine pure_of_vc hmix Ta_ok globNone low9 fun args x hs hf => ?_
  unfold sAll at hs
  split at hs
  case h_2 => cases hs
  rename_i es
  cases hd : decB es with
  | none => rw [hd] at hs; cases hs
  | some bs =>
    rw [hd] at hs
    cases hs
    have := decB_some hd
    subst this
    refine ⟨by simp [lf9], ?_⟩
    unfold allS
    by_cases hbig : 65536 < bs.length
    · have h1 : (65536 : Int) < bs.length := by omega
      rw [if_pos hbig]
      simp [lf9, h1]
    have hb : bs.length ≤ 65536 := by omega
    have h1 : ¬ (65536 : Int) < bs.length := by omega
    rw [if_neg hbig]
    have hcl := sClone_at hb
    have hb0 := blank_at (H := [rd bs 0]) (k := 0) rfl (by omega) hb
    have e0 : (⟨2, 0, false, [.p (.agg [.lst (bs.map b8), .int .i64 0])], 49⟩ : Ent) = rd bs 0 := rfl
    have hd0 : bs.drop 0 = bs := rfl
    rw [hd0] at hb0
    have hsuf0 := drop_suffix_len (skip_suffix bs)
    have hle0 := skip_le bs
    generalize hi0 : bs.length - (skip bs).length = i0 at hb0 hsuf0
    simp [lf9, h1, Ta_mu17, Ta_17, hcl, fillA, e0, Ta_18, hb0]
    simp only [lf9_B0, vc_block]
    refine loop_ind (fun fr H => ∃ i ws, H[0]? = some (rd bs i) ∧ i ≤ bs.length ∧ fr 0 = .p (.lst (bs.map b8)) ∧ fr 4 = .optr 0 0 0 0 ∧ OutOk (fr 2) H (ws.map Wd.v) ∧ ws.length ≤ i ∧ skip (bs.drop i) = bs.drop i ∧
        lexL bs.length bs = (lexL bs.length (bs.drop i)).map (ws ++ ·))
      (fun fr H => match H[0]? with | some e => (match unrd e with | some (_, j) => bs.length - j | none => 0) | none => 0) ⟨i0, [], by simp, by omega, by simp, by simp, by simp; exact .inl ⟨rfl, rfl⟩, by simp, ?_, ?_⟩ ?_
    · rw [hsuf0]; exact skip_skip _ _ (Nat.lt_succ_self _)
    · have e1 : lexL bs.length (skip bs) = lexL bs.length bs := by
        rw [lexL_eq, lexL_eq _ bs, skip_skip _ _ (Nat.lt_succ_self _)]
      rw [hsuf0, e1]
      simp
    rintro fr H ⟨i, ws, hH, hi, h0, h4, hout, hwi, hsk, hlex⟩
    have hH0 : 0 < H.length := (List.getElem?_eq_some_iff.1 hH).1
    rw [lexL_eq bs.length (bs.drop i), hsk] at hlex
    cases hr : bs.drop i with
    | nil =>
      have hnl := drop_nil_at hr
      have hnl2 : ¬ i < bs.length := by omega
      rw [hr] at hlex
      simp only [Option.map_some] at hlex
      rw [hlex]
      have hres := hout.res 6
      rcases hout with ⟨h2, hz⟩ | ⟨j, ver, h2, hj, hk⟩
      · simp only [List.map_eq_nil_iff] at hz
        subst hz
        simp [h0, h4, hH, hnl2, h2]
      · rw [h2] at hres
        simp only [List.length_map] at h2 hres
        simp [h0, h4, hH, hnl2, h2, hres, -resolveV]
        simp only [resolveV] at hres
        simp only [resolveV, mapO, hres]
    | cons c r =>
      obtain ⟨hlt, hge, hdn, hlen⟩ := drop_cons_at hr
      have hlt2 : (i : Int) < bs.length := by omega
      rw [hr] at hlex
      simp only at hlex
      have hw := meth_at (P := fun _ => true) (g := wordS) hH hlt hb rfl
      rw [hr] at hw
      have hans : IsAns (wordS (c :: r)).1 := by
        simp only [wordS]
        repeat' split
        all_goals first | exact texS_ans _ | exact quoS_ans _ | exact numS_ans _ | exact ⟨_, _, _, rfl⟩
      obtain ⟨kd, t, ok, ha⟩ := hans
      have hsuf := drop_suffix_len ((wordS_suffix (c :: r)).trans (by rw [← hr]; exact List.drop_suffix _ _) : (wordS (c :: r)).2 <:+ bs)
      have hwl := wordS_len c r
      rw [ha] at hw hlex hwl
      have hak : ansK (.tup [wordV kd t 0, .bool ok]) = (kd, t, ok) := rfl
      rw [hak] at hlex hwl
      generalize hi2 : bs.length - (wordS (c :: r)).2.length = i2 at hw hsuf
      generalize (wordS (c :: r)).2 = q at hsuf hwl hlex hi2
      have hn0 : (H.set 0 (rd bs i2))[0]? = some (rd bs i2) := List.getElem?_set_self hH0
      unfold wordV at hw
      cases ok with
      | false =>
        simp only [Option.map_none] at hlex
        rw [hlex]
        simp [h0, h4, hH, hlt, hlt2, Ta_19, hw, hp_new]
      | true =>
        have hql := hwl rfl
        let G : Heap := H.set 0 (rd bs i2) ++ [⟨3, 0, false, [.p (.agg [.int .i64 kd, .str t, .int .i64 i])], 41⟩, ⟨3, 0, false, [.p (.agg [.int .i64 kd, .str t, .int .i64 i])], 41⟩]
        have hG : G = H.set 0 (rd bs i2) ++ [⟨3, 0, false, [.p (.agg [.int .i64 kd, .str t, .int .i64 i])], 41⟩, ⟨3, 0, false, [.p (.agg [.int .i64 kd, .str t, .int .i64 i])], 41⟩] := rfl
        have hGo : OutOk (fr 2) G (ws.map Wd.v) := hout.keep fun j h1 h2 => by
          rw [hG, List.getElem?_append_left (by rw [List.length_set]; exact h2), List.getElem?_set_ne (by omega)]
        obtain ⟨x', G', happ, hout', hG0⟩ := hGo.app (by rw [hG]; simp) (by simp; omega) kd t i
        have hG'0 : G'[0]? = some (rd bs i2) := by
          rw [hG0, hG, List.getElem?_append_left (by rw [List.length_set]; exact hH0), List.getElem?_set_self hH0]
        have hG'l : 0 < G'.length := (List.getElem?_eq_some_iff.1 hG'0).1
        have hbl := blank_at hG'0 (by omega) hb
        have hsuf3 := drop_suffix_len ((skip_suffix q).trans (by rw [← hsuf]; exact List.drop_suffix _ _) : skip q <:+ bs)
        have hle3 := skip_le q
        rw [hsuf] at hbl
        have hi3 : bs.length - (skip q).length = bs.length - (skip q).length := rfl
        generalize hi3 : bs.length - (skip q).length = i3 at hbl hsuf3
        rw [hG] at happ
        simp [h0, h4, hH, hlt, hlt2, Ta_19, hw, hp_new, hp_setw, fillS, List.replicate, -appV, happ, Ta_18, hbl, hG'l]
        refine ⟨⟨i3, rfl, by omega, ws ++ [⟨kd, t, i⟩], ?_, ?_, ?_, ?_⟩, by omega⟩
        · have := hout'.keep (H' := G'.set 0 (rd bs i3)) fun j h1 h2 => by rw [List.getElem?_set_ne (by omega)]
          simpa [Wd.v] using this
        · simp; omega
        · rw [hsuf3]; exact skip_skip _ _ (Nat.lt_succ_self _)
        · have e1 : lexL bs.length (skip q) = lexL bs.length q := by
            rw [lexL_eq, lexL_eq _ q, skip_skip _ _ (Nat.lt_succ_self _)]
          rw [hlex, hsuf3, e1]
          have e2 : bs.length - (r.length + 1) = i := by omega
          simp only [e2, Option.map_map]
          congr 1
          funext x
          simp
end Go.Proofs.YthnkmebnigefaaaDoor
