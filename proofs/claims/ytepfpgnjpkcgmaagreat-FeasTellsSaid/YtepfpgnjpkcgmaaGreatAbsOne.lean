/-
  A library of the prover's own, part 1: values without memory, own arrays, and single operations of lowered code. No conditions.
-/
import Derived.WalkKit
import Derived.WalkLawsBesides
import Derived.Orders
import Derived.Great.BuildSlice
set_option linter.unusedSimpArgs false
set_option linter.unnecessarySimpa false
set_option linter.unusedVariables false
set_option linter.constructorNameAsVariable false

/-
 ABS, part A: pure values, own arrays, and how they are represented in the model's memory.
 A pure value is data without memory (a slice is a list). An own array is a block that the call itself has made and may still write.
-/
namespace Go.Abs
inductive PVal where
 | bool (b : Bool)
 | int (k : IntKind) (n : Int)
 | flt (k : FloatKind) (bits : Nat)
 | cpx (k : FloatKind) (re im : Nat)
 | str (s : List UInt8)
 | lst (elems : List PVal)
 | nilp
 | cptr (cells : List PVal)
 | clo (f : FuncId) (caps : List PVal)
 | nilf
 | nili
 | agg (cells : List PVal)
 | tup (vs : List PVal)
 deriving Inhabited
inductive AVal where
 | junk
 | anyb
 | p (x : PVal)
 | tight (es : List PVal)
 | own (k off len ver : Nat)
 | optr (k ver i off : Nat)
 | agg (cells : List AVal)
 | tup (vs : List AVal)
 | clo (f : FuncId) (caps : List AVal)
 deriving Inhabited
def PVal.cells : PVal → List PVal
 | .agg l => l
 | x => [x]
def PVal.isCell : PVal → Bool
 | .agg _ => false
 | .tup _ => false
 | _ => true
def AVal.cells : AVal → List AVal
 | .p x => x.cells.map .p
 | .agg l => l
 | x => [x]
def AVal.isCell : AVal → Bool
 | .p x => x.isCell
 | .agg _ => false
 | .tup _ => false
 | .junk => false
 | _ => true
def AVal.isAgg : AVal → Bool
 | .p (.agg _) => true
 | .agg _ => true
 | _ => false
def allP : List AVal → Option (List PVal)
 | [] => some []
 | .p x :: r => match allP r with | some ps => some (x :: ps) | none => none
 | _ :: _ => none
def mkAgg (l : List AVal) : AVal := match allP l with | some ps => .p (.agg ps) | none => .agg l
abbrev Prot := Nat → Nat → Option Value
inductive PRep (pr : Prot) : PVal → Value → Prop
 | bool (b) : PRep pr (.bool b) (.bool b)
 | int (k n) : PRep pr (.int k n) (.int k n)
 | flt (k b) : PRep pr (.flt k b) (.float k b)
 | cpx (k a b) : PRep pr (.cpx k a b) (.complex k a b)
 | str (s : List UInt8) (h : s.length ≤ maxLen) : PRep pr (.str s) (.string ⟨s.toArray⟩)
 | lst (es : List PVal) (a : Option Addr) (len cap size blk off : Nat) (vals : Nat → Nat → Value) (hl : len = es.length) (hc : len ≤ cap) (hm : cap ≤ maxLen)
   (ha : es ≠ [] → a = some ⟨blk, off, none⟩) (hs : ∀ e ∈ es, e.cells.length = size)
   (hp : ∀ i j, i < es.length → j < size → pr blk (off + i * size + j) = some (vals i j))
   (hr : ∀ (i : Nat) e (j : Nat) x, es[i]? = some e → e.cells[j]? = some x → PRep pr x (vals i j)) (hk : ∀ e ∈ es, ∀ x ∈ e.cells, x.isCell = true) : PRep pr (.lst es) (.slice a len cap)
 | nilp : PRep pr .nilp (.pointer none)
 | cptr (cells : List PVal) (blk off : Nat) (vals : Nat → Value) (hp : ∀ j, j < cells.length → pr blk (off + j) = some (vals j))
   (hr : ∀ (j : Nat) x, cells[j]? = some x → PRep pr x (vals j)) (hk : ∀ x ∈ cells, x.isCell = true) : PRep pr (.cptr cells) (.pointer (some ⟨blk, off, none⟩))
 | clo (f : FuncId) (caps : List PVal) (vs : List Value) (hl : vs.length = caps.length) (hr : ∀ (j : Nat) x v, caps[j]? = some x → vs[j]? = some v → PRep pr x v) : PRep pr (.clo f caps) (.func (.func f) #[] vs.toArray)
 | nilf : PRep pr .nilf .nilFunc
 | nili : PRep pr .nili .nilIface
 | agg (cells : List PVal) (vs : List Value) (hl : vs.length = cells.length) (hr : ∀ (j : Nat) x v, cells[j]? = some x → vs[j]? = some v → PRep pr x v) (hk : ∀ x ∈ cells, x.isCell = true) : PRep pr (.agg cells) (.agg vs.toArray)
 | tup (l : List PVal) (vs : List Value) (hl : vs.length = l.length) (hr : ∀ (j : Nat) x v, l[j]? = some x → vs[j]? = some v → PRep pr x v) : PRep pr (.tup l) (.tuple vs.toArray)
def Prot.le (a b : Prot) : Prop := ∀ k o v, a k o = some v → b k o = some v
theorem PRep.mono {a b : Prot} (h : Prot.le a b) {x : PVal} {v : Value} (r : PRep a x v) : PRep b x v := by
 induction r with
 | bool | int | flt | cpx | nilp | nilf | nili => constructor
 | str s h => exact .str s h
 | lst es a len cap size blk off vals hl hc hm ha hs hp hr hk ih => exact .lst es a len cap size blk off vals hl hc hm ha hs (fun i j hi hj => h _ _ _ (hp i j hi hj)) (fun i e j x h1 h2 => ih i e j x h1 h2) hk
 | cptr cells blk off vals hp hr hk ih => exact .cptr cells blk off vals (fun j hj => h _ _ _ (hp j hj)) (fun j x h1 => ih j x h1) hk
 | clo f caps vs hl hr ih => exact .clo f caps vs hl (fun j x v h1 h2 => ih j x v h1 h2)
 | agg cells vs hl hr hk ih => exact .agg cells vs hl (fun j x v h1 h2 => ih j x v h1 h2) hk
 | tup l vs hl hr ih => exact .tup l vs hl (fun j x v h1 h2 => ih j x v h1 h2)
structure Loc where
 ver : Nat
 size : Nat
 place : Option (Nat × Nat)
structure Ctx where
 locs : List Loc
 prot : Prot
def OwnVal (l : Loc) (off len : Nat) (v : Value) : Prop :=
 match l.place with
 | some (g, cap) => ∃ a cp, v = .slice a len cp ∧ len ≤ cp ∧ cp ≤ maxLen ∧ off + len ≤ cap ∧ ((0 < len ∨ off = 0) → a = some ⟨g, off * l.size, none⟩ ∧ cp = cap - off)
 | none => ∃ a, v = .slice a 0 0 ∧ off = 0 ∧ len = 0 ∧ a = none
inductive Rep (c : Ctx) : AVal → Value → Prop
 | junk (v) : Rep c .junk v
 | anyb (b) : Rep c .anyb (.bool b)
 | p (x v) (h : PRep c.prot x v) : Rep c (.p x) v
 | tight (es : List PVal) (a : Option Addr) (n : Nat) (hn : n = es.length) (h : PRep c.prot (.lst es) (.slice a n n)) (hz : es = [] → a = none) : Rep c (.tight es) (.slice a n n)
 | own (k off len ver : Nat) (l : Loc) (v : Value) (hl : c.locs[k]? = some l) (hv : ver ≤ l.ver) (hh : ver = l.ver → OwnVal l off len v) (ho : ∃ a n m, v = .slice a n m) : Rep c (.own k off len ver) v
 | optr (k ver i off : Nat) (l : Loc) (v : Value) (hl : c.locs[k]? = some l) (hv : ver ≤ l.ver) (hh : ver = l.ver → ∃ g cap, l.place = some (g, cap) ∧ v = .pointer (some ⟨g, i * l.size + off, none⟩)) (ho : ∃ a, v = .pointer a) : Rep c (.optr k ver i off) v
 | agg (cells : List AVal) (vs : List Value) (hl : vs.length = cells.length) (hr : ∀ (j : Nat) x v, cells[j]? = some x → vs[j]? = some v → Rep c x v) (hk : ∀ x ∈ cells, x.isCell = true) : Rep c (.agg cells) (.agg vs.toArray)
 | tup (l : List AVal) (vs : List Value) (hl : vs.length = l.length) (hr : ∀ (j : Nat) x v, l[j]? = some x → vs[j]? = some v → Rep c x v) : Rep c (.tup l) (.tuple vs.toArray)
 | clo (f : FuncId) (caps : List AVal) (vs : List Value) (hl : vs.length = caps.length) (hr : ∀ (j : Nat) x v, caps[j]? = some x → vs[j]? = some v → Rep c x v) : Rep c (.clo f caps) (.func (.func f) #[] vs.toArray)
def Loced (c : Ctx) (b : Nat) : Prop := ∃ (k : Nat) (l : Loc) (cap : Nat), c.locs[k]? = some l ∧ l.place = some (b, cap)
structure Ent where
 size : Nat
 ver : Nat
 froz : Bool
 elems : List AVal
 ty : TypeId
 deriving Inhabited
abbrev Heap := List Ent
structure Step (c : Ctx) (w : World) (c' : Ctx) (w' : World) : Prop where
 prot : Prot.le c.prot c'.prot
 locs : ∀ (k : Nat) l, c.locs[k]? = some l → ∃ l', c'.locs[k]? = some l' ∧ l.ver ≤ l'.ver ∧ (l'.ver = l.ver → l' = l)
 os : w'.os = w.os
 tape : w'.tape = w.tape
 output : w'.output = w.output
 size : w.heap.size ≤ w'.heap.size
 blk : ∀ b, b < w.heap.size → ¬ Loced c b → w'.heap[b]? = w.heap[b]?
 newloc : ∀ b, Loced c' b → Loced c b ∨ w.heap.size ≤ b
 newprot : ∀ b o v, c'.prot b o = some v → c.prot b o = some v ∨ w.heap.size ≤ b ∨ Loced c b
theorem Step.refl (c : Ctx) (w : World) : Step c w c w :=
 ⟨fun _ _ _ h => h, fun _ l h => ⟨l, h, Nat.le_refl _, fun _ => rfl⟩, rfl, rfl, rfl, Nat.le_refl _, fun _ _ _ => rfl, fun _ h => .inl h, fun _ _ _ h => .inl h⟩
theorem Step.trans {c c1 c2 : Ctx} {w w1 w2 : World} (h : Step c w c1 w1) (k : Step c1 w1 c2 w2) : Step c w c2 w2 where
 prot := fun b o v hv => k.prot b o v (h.prot b o v hv)
 locs := fun i l hl => by
  obtain ⟨l1, h1, h2, h3⟩ := h.locs i l hl
  obtain ⟨l2, k1, k2, k3⟩ := k.locs i l1 h1
  refine ⟨l2, k1, Nat.le_trans h2 k2, fun e => ?_⟩
  have e1 : l1.ver = l.ver := by omega
  have := h3 e1
  subst this
  exact k3 e
 os := k.os.trans h.os
 tape := k.tape.trans h.tape
 output := k.output.trans h.output
 size := Nat.le_trans h.size k.size
 blk := fun b hb hn => (k.blk b (Nat.lt_of_lt_of_le hb h.size) (fun hl => by rcases h.newloc b hl with h1 | h1; exact hn h1; omega)).trans (h.blk b hb hn)
 newloc := fun b hb => by
  rcases k.newloc b hb with h1 | h1
  ·exact h.newloc b h1
  ·exact .inr (Nat.le_trans h.size h1)
 newprot := fun b o v hv => by
  rcases k.newprot b o v hv with h1 | h1 | h1
  ·exact h.newprot b o v h1
  ·exact .inr (.inl (Nat.le_trans h.size h1))
  ·rcases h.newloc b h1 with h2 | h2
   ·exact .inr (.inr h2)
   ·exact .inr (.inl h2)
theorem Rep.step {c c' : Ctx} {w w' : World} (h : Step c w c' w') {x : AVal} {v : Value} (r : Rep c x v) : Rep c' x v := by
 induction r with
 | junk v => exact .junk v
 | anyb b => exact .anyb b
 | p x v hr => exact .p x v (hr.mono h.prot)
 | tight es a n hn hr hz => exact .tight es a n hn (hr.mono h.prot) hz
 | own k off len ver l v hl hv hh ho =>
  obtain ⟨l', h1, h2, h3⟩ := h.locs k l hl
  refine .own k off len ver l' v h1 (Nat.le_trans hv h2) (fun e => ?_) ho
  have e1 : l'.ver = l.ver := by omega
  have := h3 e1
  subst this
  exact hh e
 | optr k ver i off l v hl hv hh ho =>
  obtain ⟨l', h1, h2, h3⟩ := h.locs k l hl
  refine .optr k ver i off l' v h1 (Nat.le_trans hv h2) (fun e => ?_) ho
  have e1 : l'.ver = l.ver := by omega
  have := h3 e1
  subst this
  exact hh e
 | agg cells vs hl hr hk ih => exact .agg cells vs hl (fun j x v h1 h2 => ih j x v h1 h2) hk
 | tup l vs hl hr ih => exact .tup l vs hl (fun j x v h1 h2 => ih j x v h1 h2)
 | clo f caps vs hl hr ih => exact .clo f caps vs hl (fun j x v h1 h2 => ih j x v h1 h2)
structure EntOk (c : Ctx) (w : World) (e : Ent) (l : Loc) : Prop where
 ver : l.ver = e.ver
 size : l.size = e.size
 pos : 0 < e.size
 cells : ∀ x ∈ e.elems, x.cells.length = e.size ∧ ∀ y ∈ x.cells, y.isCell = true
 nowhere : l.place = none → e.elems = []
 typed : ∀ g cap cur ty fr, l.place = some (g, cap) → w.heap[g]? = some (.cells cur ty fr) → ty = e.ty
 there : ∀ g cap, l.place = some (g, cap) → ∃ cur ty, w.heap[g]? = some (.cells cur ty (0, 0)) ∧ cur.size = cap * e.size ∧ cap ≤ maxLen ∧ e.elems.length ≤ cap ∧
  (∀ (i : Nat) x (j : Nat) y, e.elems[i]? = some x → x.cells[j]? = some y → ∃ v, cur[i * e.size + j]? = some v ∧ Rep c y v) ∧
  (∀ o v, c.prot g o = some v → e.froz = true ∧ o < e.elems.length * e.size)
structure Inv (base : Prot) (c : Ctx) (H : Heap) (w : World) : Prop where
 base : Prot.le base c.prot
 len : c.locs.length = H.length
 prot : ∀ b o v, c.prot b o = some v → w.cell? ⟨b, o, none⟩ = some v
 ent : ∀ (k : Nat) e l, H[k]? = some e → c.locs[k]? = some l → EntOk c w e l
 inj : ∀ (k k' : Nat) l l' g cp cp', c.locs[k]? = some l → c.locs[k']? = some l' → l.place = some (g, cp) → l'.place = some (g, cp') → k = k'
def RepL (c : Ctx) (xs : List AVal) (vs : List Value) : Prop := vs.length = xs.length ∧ ∀ (j : Nat) x v, xs[j]? = some x → vs[j]? = some v → Rep c x v
theorem RepL.step {c c' : Ctx} {w w' : World} (h : Step c w c' w') {xs : List AVal} {vs : List Value} (r : RepL c xs vs) : RepL c' xs vs :=
 ⟨r.1, fun j x v h1 h2 => (r.2 j x v h1 h2).step h⟩
def Spec (P : Program) (base : Prot) (f : FuncId) (args : List AVal) (H : Heap) (r : AVal) (H' : Heap) : Prop :=
 ∀ (c : Ctx) (w : World) (vs : List Value), Inv base c H w → RepL c args vs →
  Calls P f vs.toArray w fun e w' => ∃ v c', e = .returned v ∧ Step c w c' w' ∧ Inv base c' H' w' ∧ Rep c' r v
end Go.Abs

/-
 ABS, part B: the lowered code, its evaluation over pure values and own arrays, and the lowering of the model's code.
-/
namespace Go.Abs
abbrev AFr := Nat → AVal
def upd (fr : AFr) (d : Nat) (v : AVal) : AFr := fun i => if i = d then v else fr i
inductive LOpd where
 | tmp (t : Nat)
 | cst (x : AVal)
 deriving Inhabited
def opd (fr : AFr) : LOpd → AVal
 | .tmp t => fr t
 | .cst x => x
inductive SK where
 | b
 | i
 | s
 deriving Inhabited
inductive LConv where
 | toInt (k : IntKind)
 | s2b
 | b2s
 | same
 | mark
 | i2f (k : FloatKind)
 deriving Inhabited
inductive LOp where
 | mov (x : LOpd)
 | pick (c a b : LOpd)
 | newv (size : Nat) (ty : TypeId) (x : LOpd)
 | build (zero : AVal) (parts : List (Nat × Nat × LOpd))
 | buildSl (size : Nat) (ty : TypeId) (zero : AVal) (len : Nat) (parts : List (Nat × LOpd))
 | load (n : Nat) (ag : Bool) (a : LOpd)
 | store (n : Nat) (a x : LOpd)
 | nilc (x : LOpd)
 | bin (op : BinOp) (x y : LOpd)
 | eqB (neg : Bool) (x y : LOpd)
 | eqA (neg : Bool) (ks : List SK) (x y : LOpd)
 | eqN (neg fn : Bool) (x y : LOpd)
 | eqS (neg : Bool) (x y : LOpd)
 | un (op : UnOp) (x : LOpd)
 | conv (k : LConv) (x : LOpd)
 | mkf (f : FuncId) (caps : List LOpd)
 | mksl (size bytes : Nat) (ty : TypeId) (zero : AVal) (l c : LOpd)
 | slStr (x : LOpd) (lo hi : Option LOpd)
 | slSl (size : Nat) (x : LOpd) (lo hi mx : Option LOpd)
 | fadr (off : Nat) (x : LOpd)
 | fld (off n : Nat) (ag : Bool) (x : LOpd)
 | iadr (size : Nat) (x i : LOpd)
 | iaadr (len size : Nat) (x i : LOpd)
 | istr (x i : LOpd)
 | iarr (len size : Nat) (ag : Bool) (x i : LOpd)
 | ext (x : LOpd) (i : Nat)
 | call (f : FuncId) (args : List LOpd)
 | calle (f : FuncId) (args : List LOpd)
 | callv (x : LOpd) (args : List LOpd)
 | lenS (x : LOpd)
 | len (x : LOpd)
 | app (size bytes : Nat) (ty : TypeId) (x y : LOpd)
 | appS (bytes : Nat) (ty : TypeId) (x y : LOpd)
 | cpy (size : Nat) (x y : LOpd)
 | clr (size : Nat) (z : AVal) (x : LOpd)
 | minmax (mx : Bool) (x y : LOpd)
 | re (x : LOpd)
 | im (x : LOpd)
 | mkc (x y : LOpd)
 | bad
 deriving Inhabited
structure LOper where
 dst : Option Nat
 guard : Option (Nat × Bool)
 op : LOp
 deriving Inhabited
inductive Fl where
 | f
 | s
 | t
 | n (r : Nat)
 | c (R : Nat)
 deriving Inhabited, DecidableEq
inductive LCode where
 | skip
 | region (ops : List LOper)
 | regionD (ops : List LOper)
 | regionW (ops : List (LOper × Fl))
 | regionN (R : Nat) (ops : List (LOper × Fl))
 | seq (a b : LCode)
 | cond (c : LOpd) (thn els : LCode)
 | block (id : Nat) (body : LCode)
 | loop (body : LCode)
 | exit (id : Nat)
 | ret
 | bad
 deriving Inhabited
inductive LRes where
 | slot (t : Nat)
 | cell (t n : Nat) (ag : Bool)
 deriving Inhabited
structure LFunc where
 n : Nat
 results : List LRes
 body : LCode
 deriving Inhabited
def mapO {α β : Type} (f : α → Option β) : List α → Option (List β)
 | [] => some []
 | x :: r => match f x with
  | some y => match mapO f r with
   | some ys => some (y :: ys)
   | none => none
  | none => none
def resolveV (H : Heap) : Nat → AVal → Option PVal
 | _, .p x => some x
 | _, .tight es => some (.lst es)
 | n + 1, .own k off len ver => match H[k]? with
  | some e => if e.ver = ver ∧ off + len ≤ e.elems.length then
    match mapO (resolveV H n) ((e.elems.drop off).take len) with | some ps => some (.lst ps) | none => none
   else none
  | none => none
 | n + 1, .optr k ver i off => match H[k]? with
  | some e => if e.ver = ver then match e.elems[i]? with
    | some x => match mapO (resolveV H n) (x.cells.drop off) with | some ps => some (.cptr ps) | none => none
    | none => none
   else none
  | none => none
 | n + 1, .agg l => match mapO (resolveV H n) l with | some ps => some (.agg ps) | none => none
 | n + 1, .tup l => match mapO (resolveV H n) l with | some ps => some (.tup ps) | none => none
 | n + 1, .clo f l => match mapO (resolveV H n) l with | some ps => some (.clo f ps) | none => none
 | _, _ => none
def touchV (H : Heap) : Nat → AVal → List Nat
 | _, .p _ => []
 | _, .tight _ => []
 | n + 1, .own k off len _ => k :: (match H[k]? with
  | some e => ((e.elems.drop off).take len).flatMap (touchV H n)
  | none => [])
 | n + 1, .optr k _ i off => k :: (match H[k]? with
  | some e => match e.elems[i]? with | some x => (x.cells.drop off).flatMap (touchV H n) | none => []
  | none => [])
 | n + 1, .agg l => l.flatMap (touchV H n)
 | n + 1, .tup l => l.flatMap (touchV H n)
 | n + 1, .clo _ l => l.flatMap (touchV H n)
 | _, _ => []
def freeze1 (H : Heap) (k : Nat) : Heap := match H[k]? with
 | some e => H.set k ⟨e.size, e.ver, true, e.elems, e.ty⟩
 | none => H
def freezeL (H : Heap) (ks : List Nat) : Heap := ks.foldl freeze1 H
def fuel : Nat := 8
def shiftV (n : Nat) : AVal → AVal
 | .own k off len ver => .own (n + k) off len ver
 | .optr k ver i off => .optr (n + k) ver i off
 | .agg l => .agg (l.map (shiftV n))
 | .tup l => .tup (l.map (shiftV n))
 | .clo f l => .clo f (l.map (shiftV n))
 | x => x
def shiftE (n : Nat) (e : Ent) : Ent := ⟨e.size, e.ver, e.froz, e.elems.map (shiftV n), e.ty⟩
structure Tab where
 fn : FuncId → List PVal → Option (AVal × Heap)
 mu : FuncId → List AVal → Heap → Option (AVal × Heap)
 ex : FuncId → List PVal → Option PVal
def callF (T : Tab) (f : FuncId) (args : List AVal) (H : Heap) : Option (AVal × Heap) :=
 match T.mu f args H with
 | some r => some r
 | none => match mapO (resolveV H fuel) args with
  | some ps => match T.fn f ps with
   | some (r, E) => some (shiftV H.length r, freezeL H (args.flatMap (touchV H fuel)) ++ E.map (shiftE H.length))
   | none => none
  | none => none
def intOf? : AVal → Option Int
 | .p (.int _ n) => some n
 | _ => none
def elemsOf (H : Heap) : AVal → Option (List AVal)
 | .own k off len ver => match H[k]? with
  | some e => if e.ver = ver ∧ off + len ≤ e.elems.length then some ((e.elems.drop off).take len) else none
  | none => none
 | .p (.lst es) => some (es.map .p)
 | .tight es => some (es.map .p)
 | .p (.str s) => some (s.map fun b => .p (.int .u8 b.toNat))
 | _ => none
def sliceOf (H : Heap) (x : AVal) : Option (List AVal) := match x with
 | .p (.str _) => none
 | y => elemsOf H y
def lenOf? (H : Heap) : AVal → Option Nat
 | .own k _ len ver => match H[k]? with
  | some e => if e.ver = ver then some len else none
  | none => none
 | .p (.lst es) => some es.length
 | .tight es => some es.length
 | _ => none
def bytesOf : List AVal → Option (List UInt8)
 | [] => some []
 | .p (.int .u8 n) :: r => match bytesOf r with | some bs => some (UInt8.ofNat n.toNat :: bs) | none => none
 | _ :: _ => none
def fromCells (ag : Bool) (l : List AVal) : Option AVal :=
 if ag then some (mkAgg l) else match l with | [x] => some x | _ => none
def putCells (el x : AVal) (off n : Nat) : Option AVal :=
 if x.cells.length = n ∧ x.cells.all AVal.isCell = true then
  if el.isAgg then (if off + n ≤ el.cells.length then some (mkAgg (el.cells.take off ++ x.cells ++ el.cells.drop (off + n))) else none)
  else if off = 0 ∧ n = 1 ∧ x.isAgg = false then some x else none
 else none
def fillA (opv : LOpd → AVal) : List AVal → List (Nat × Nat × LOpd) → Option (List AVal)
 | cells, [] => some cells
 | cells, (off, size, x) :: r =>
  if (opv x).cells.length = size ∧ off + size ≤ cells.length ∧ (opv x).cells.all AVal.isCell = true then
   fillA opv (cells.take off ++ (opv x).cells ++ cells.drop (off + size)) r
  else none
def fillS (opv : LOpd → AVal) (size : Nat) : List AVal → List (Nat × LOpd) → Option (List AVal)
 | es, [] => some es
 | es, (i, x) :: r =>
  if (opv x).cells.length = size ∧ i < es.length ∧ (opv x).cells.all AVal.isCell = true then fillS opv size (es.set i (opv x)) r
  else none
def binI (op : BinOp) (k : IntKind) (a b : Int) : Option PVal :=
 match op with
 | .add => some (.int k (k.wrap (a + b)))
 | .sub => some (.int k (k.wrap (a - b)))
 | .mul => some (.int k (k.wrap (a * b)))
 | .quo => if b = 0 then none else some (.int k (k.wrap (a.tdiv b)))
 | .rem => if b = 0 then none else some (.int k (a.tmod b))
 | .and => some (.int k (k.wrap ((BitVec.ofInt k.bits a) &&& (BitVec.ofInt k.bits b)).toNat))
 | .or => some (.int k (k.wrap ((BitVec.ofInt k.bits a) ||| (BitVec.ofInt k.bits b)).toNat))
 | .xor => some (.int k (k.wrap ((BitVec.ofInt k.bits a) ^^^ (BitVec.ofInt k.bits b)).toNat))
 | .andNot => some (.int k (k.wrap ((BitVec.ofInt k.bits a) &&& ~~~(BitVec.ofInt k.bits b)).toNat))
 | .eql => some (.bool (a == b))
 | .neq => some (.bool (a != b))
 | .lss => some (.bool (decide (a < b)))
 | .leq => some (.bool (decide (a ≤ b)))
 | .gtr => some (.bool (decide (a > b)))
 | .geq => some (.bool (decide (a ≥ b)))
 | _ => none
def shiftI (op : BinOp) (k : IntKind) (a b : Int) : Option PVal :=
 if b < 0 then none else
 match op with
 | .shl => some (.int k (k.wrap (a * 2 ^ (min b.toNat k.bits))))
 | .shr => some (.int k (a.fdiv (2 ^ (min b.toNat k.bits))))
 | _ => none
def binS (op : BinOp) (a b : List UInt8) : Option PVal :=
 match op with
 | .add => if a.length + b.length ≤ maxLen then some (.str (a ++ b)) else none
 | .eql => some (.bool (a == b))
 | .neq => some (.bool (!(a == b)))
 | .lss => some (.bool (Op.bytesLess a b))
 | .leq => some (.bool (Op.bytesLess a b || a == b))
 | .gtr => some (.bool (!(Op.bytesLess a b || a == b)))
 | .geq => some (.bool (!(Op.bytesLess a b)))
 | _ => none
def binF (op : BinOp) (k : FloatKind) (a b : Nat) : Option PVal :=
 match op with
 | .add => (k.format.add a b).map (.flt k)
 | .sub => (k.format.sub a b).map (.flt k)
 | .mul => (k.format.mul a b).map (.flt k)
 | .quo => (k.format.div a b).map (.flt k)
 | .eql => some (.bool (k.format.order a b == some .eq))
 | .neq => some (.bool (k.format.order a b != some .eq))
 | .lss => some (.bool (k.format.order a b == some .lt))
 | .leq => some (.bool (k.format.order a b == some .lt || k.format.order a b == some .eq))
 | .gtr => some (.bool (k.format.order a b == some .gt))
 | .geq => some (.bool (k.format.order a b == some .gt || k.format.order a b == some .eq))
 | _ => none
def isShift : BinOp → Bool
 | .shl => true
 | .shr => true
 | _ => false
def binV (op : BinOp) : AVal → AVal → Option PVal
 | .p (.int k a), .p (.int k' b) => if isShift op then shiftI op k a b else if k = k' then binI op k a b else none
 | .p (.str a), .p (.str b) => binS op a b
 | .p (.flt k a), .p (.flt k' b) => if k = k' then binF op k a b else none
 | _, _ => none
def eqCell : SK → PVal → PVal → Option Bool
 | .b, .bool a, .bool b => some (a == b)
 | .i, .int k a, .int k' b => if k = k' then some (a == b) else none
 | .s, .str a, .str b => some (a == b)
 | _, _, _ => none
def eqCells : List SK → List PVal → List PVal → Option Bool
 | [], [], [] => some true
 | k :: ks, x :: xs, y :: ys => match eqCell k x y with
  | some b => match eqCells ks xs ys with | some c => some (b && c) | none => none
  | none => none
 | _, _, _ => none
def eqNil (H : Heap) (fn : Bool) : AVal → AVal → Option Bool
 | .p .nilp, .p .nilp => if fn then none else some true
 | .p (.cptr _), .p .nilp => if fn then none else some false
 | .optr k ver _ _, .p .nilp => match H[k]? with
  | some e => if e.ver = ver ∧ fn = false then some false else none
  | none => none
 | .p .nilf, .p .nilf => if fn then some true else none
 | .p (.clo _ _), .p .nilf => if fn then some false else none
 | .clo _ _, .p .nilf => if fn then some false else none
 | _, _ => none
def unV (op : UnOp) : AVal → Option PVal
 | .p (.bool b) => match op with | .not => some (.bool (!b)) | _ => none
 | .p (.int k n) => match op with
  | .neg => some (.int k (k.wrap (0 - n)))
  | .xor => binI .xor k (if k.signed then -1 else k.max) n
  | _ => none
 | .p (.flt k b) => match op with | .neg => some (.flt k (Op.negFloat k b)) | _ => none
 | .p (.cpx k a b) => match op with | .neg => some (.cpx k (Op.negFloat k a) (Op.negFloat k b)) | _ => none
 | _ => none
def optI (fr : AFr) (d : Nat) : Option LOpd → Option Int
 | none => some d
 | some x => intOf? (opd fr x)
def mkClo (f : FuncId) (l : List AVal) : AVal := match allP l with | some ps => .p (.clo f ps) | none => .clo f l
def sizeOk (size : Nat) (es : List PVal) : Bool := es.all fun e => e.cells.length == size
def appV (size bytes : Nat) (ty : TypeId) (x : AVal) (ys : List AVal) (H : Heap) : Option (AVal × Heap) :=
 if ys.all (fun y => y.cells.length == size && y.cells.all AVal.isCell) = true ∧ 0 < size then
  match x with
  | .own k off len ver => match H[k]? with
   | some e => if e.ver = ver ∧ e.size = size ∧ e.ty = ty ∧ off = 0 ∧ len = e.elems.length ∧ (e.elems.length + ys.length) * bytes ≤ 140737488355328 ∧ e.elems.length + ys.length ≤ maxLen then
     some (.own k 0 (len + ys.length) (ver + 1), H.set k ⟨size, ver + 1, e.froz, e.elems ++ ys, ty⟩)
    else if e.ver = ver ∧ e.size = size ∧ off = 0 ∧ e.froz = false ∧ len + ys.length ≤ e.elems.length ∧ 0 < ys.length then
     some (.own k 0 (len + ys.length) ver, H.set k ⟨e.size, e.ver, e.froz, e.elems.take len ++ ys ++ e.elems.drop (len + ys.length), e.ty⟩)
    else if e.ver = ver ∧ ys.length = 0 then some (.own k off len ver, H)
    else none
   | none => none
  | .tight es => if (es.isEmpty || !ys.isEmpty) = true ∧ es.all (fun y => y.cells.length == size) = true ∧ (es.length + ys.length) * bytes ≤ 140737488355328 ∧ es.length + ys.length ≤ maxLen then
    some (.own H.length 0 (es.length + ys.length) 0, H ++ [⟨size, 0, false, es.map .p ++ ys, ty⟩])
   else none
  | _ => none
 else none
def evalOp (T : Tab) : LOp → AFr → Heap → Option (AVal × Heap)
 | .mov x, fr, H => some (opd fr x, H)
 | .pick c a b, fr, H => match opd fr c with
  | .p (.bool t) => some (if t then opd fr a else opd fr b, H)
  | _ => none
 | .newv size ty x, fr, H =>
  if (opd fr x).cells.length = size ∧ 0 < size ∧ (opd fr x).cells.all AVal.isCell = true then
   some (.optr H.length 0 0 0, H ++ [⟨size, 0, false, [opd fr x], ty⟩])
  else none
 | .build z parts, fr, H => if z.cells.all AVal.isCell = true then (match fillA (opd fr) z.cells parts with
  | some cs => some (mkAgg cs, H)
  | none => none) else none
 | .buildSl size ty z len parts, fr, H =>
  if z.cells.length = size ∧ 0 < size ∧ len * size ≤ 16777216 ∧ z.cells.all AVal.isCell = true then
   match fillS (opd fr) size (List.replicate len z) parts with
   | some es => some (.own H.length 0 len 0, H ++ [⟨size, 0, false, es, ty⟩])
   | none => none
  else none
 | .load n ag a, fr, H => match opd fr a with
  | .optr k ver i off => match H[k]? with
   | some e => if e.ver = ver then match e.elems[i]? with
     | some x => if off + n ≤ x.cells.length then
       match fromCells ag ((x.cells.drop off).take n) with | some v => some (v, H) | none => none
      else none
     | none => none
    else none
   | none => none
  | .p (.cptr cells) => if n ≤ cells.length then
    match fromCells ag ((cells.take n).map .p) with | some v => some (v, H) | none => none
   else none
  | _ => none
 | .store n a x, fr, H => match opd fr a with
  | .optr k ver i off => match H[k]? with
   | some e => if e.ver = ver ∧ e.froz = false then match e.elems[i]? with
     | some el => match putCells el (opd fr x) off n with
      | some el' => some (.p (.tup []), H.set k ⟨e.size, e.ver, e.froz, e.elems.set i el', e.ty⟩)
      | none => none
     | none => none
    else none
   | none => none
  | _ => none
 | .nilc x, fr, H => match opd fr x with
  | .optr k ver i off => match H[k]? with
   | some e => if e.ver = ver then some (.optr k ver i off, H) else none
   | none => none
  | .p (.cptr l) => some (.p (.cptr l), H)
  | .p (.clo f l) => some (.p (.clo f l), H)
  | .clo f l => some (.clo f l, H)
  | _ => none
 | .bin op x y, fr, H => match binV op (opd fr x) (opd fr y) with | some v => some (.p v, H) | none => none
 | .eqB neg x y, fr, H => match opd fr x, opd fr y with
  | .p (.bool a), .p (.bool b) => some (.p (.bool ((a == b) != neg)), H)
  | _, _ => none
 | .eqA neg ks x y, fr, H => match opd fr x, opd fr y with
  | .p (.agg a), .p (.agg b) => match eqCells ks a b with | some t => some (.p (.bool (t != neg)), H) | none => none
  | _, _ => none
 | .eqN neg fn x y, fr, H => match eqNil H fn (opd fr x) (opd fr y) with | some t => some (.p (.bool (t != neg)), H) | none => none
 | .eqS neg x y, fr, H => match opd fr y with
  | .tight [] => match opd fr x with
   | .p (.lst []) => some (.anyb, H)
   | .p (.lst (_ :: _)) => some (.p (.bool neg), H)
   | .tight (_ :: _) => some (.p (.bool neg), H)
   | .tight [] => some (.p (.bool (!neg)), H)
   | _ => none
  | _ => none
 | .un op x, fr, H => match unV op (opd fr x) with | some v => some (.p v, H) | none => none
 | .conv k x, fr, H => match k with
  | .toInt k => match intOf? (opd fr x) with | some n => some (.p (.int k (k.wrap n)), H) | none => none
  | .s2b => match opd fr x with | .p (.str s) => some (.p (.lst (s.map fun b => .int .u8 b.toNat)), H) | _ => none
  | .b2s => match opd fr x with
   | .p (.str _) => none
   | y => match elemsOf H y with
    | some es => match bytesOf es with | some bs => some (.p (.str bs), H) | none => none
    | none => none
  | .same => match opd fr x with | .p (.str s) => some (.p (.str s), H) | _ => none
  | .mark => match opd fr x with
   | .own k 0 len ver => match H[k]? with
    | some e => if e.ver = ver ∧ len = e.elems.length ∧ 0 < len then (match mapO (resolveV H 0) e.elems with
     | some ps => some (.p (.lst ps), H.set k ⟨e.size, e.ver + 1, true, [], e.ty⟩)
     | none => none) else none
    | none => none
   | _ => none
  | .i2f _ => none
 | .mkf f caps, fr, H => some (mkClo f (caps.map (opd fr)), H)
 | .mksl size bytes ty z l c, fr, H => match intOf? (opd fr l), intOf? (opd fr c) with
  | some l, some c => if 0 ≤ l ∧ l ≤ c ∧ c * bytes ≤ 140737488355328 ∧ c ≤ maxLen ∧ z.cells.length = size ∧ 0 < size ∧ z.cells.all AVal.isCell = true then
    some (.own H.length 0 l.toNat 0, H ++ [⟨size, 0, false, List.replicate l.toNat z, ty⟩])
   else none
  | _, _ => none
 | .slStr x lo hi, fr, H => match opd fr x with
  | .p (.str s) => match optI fr 0 lo, optI fr s.length hi with
   | some l, some h => if 0 ≤ l ∧ l ≤ h ∧ h ≤ s.length then some (.p (.str ((s.take h.toNat).drop l.toNat)), H) else none
   | _, _ => none
  | _ => none
 | .slSl size x lo hi mx, fr, H => match opd fr x with
  | .own k off len ver => match mx with
   | some m => match H[k]? with
    | some e => match optI fr 0 lo, optI fr len hi, intOf? (opd fr m) with
     | some l, some h, some mm => if 0 ≤ l ∧ l ≤ h ∧ h ≤ mm ∧ mm ≤ len ∧ hi.isSome = true ∧ e.ver = ver then some (.junk, H) else none
     | _, _, _ => none
    | none => none
   | none => match H[k]? with
    | some e => match optI fr 0 lo, optI fr len hi with
     | some l, some h => if 0 ≤ l ∧ l ≤ h ∧ h ≤ len ∧ e.ver = ver ∧ e.size = size then some (.own k (off + l.toNat) (h - l).toNat ver, H)
      else if 0 ≤ l ∧ l ≤ h ∧ off = 0 ∧ h ≤ e.elems.length ∧ e.ver = ver ∧ e.size = size then some (.own k l.toNat (h - l).toNat ver, H) else none
     | _, _ => none
    | none => none
  | .p (.lst es) => match optI fr 0 lo, optI fr es.length hi with
   | some l, some h => if 0 ≤ l ∧ l ≤ h ∧ h ≤ es.length ∧ (lo.isNone || sizeOk size es) = true then
     match mx with
     | none => some (.p (.lst ((es.take h.toNat).drop l.toNat)), H)
     | some m => if (intOf? (opd fr m) = some h ∧ hi.isSome = true) ∧ l < h then some (.tight ((es.take h.toNat).drop l.toNat), H) else none
    else none
   | _, _ => none
  | .tight es => match optI fr 0 lo, optI fr es.length hi with
   | some l, some h => if 0 ≤ l ∧ l ≤ h ∧ h ≤ es.length ∧ (lo.isNone || sizeOk size es) = true then
     match mx with
     | none => some (.p (.lst ((es.take h.toNat).drop l.toNat)), H)
     | some m => if (intOf? (opd fr m) = some h ∧ hi.isSome = true) ∧ l < h then some (.tight ((es.take h.toNat).drop l.toNat), H) else none
    else none
   | _, _ => none
  | _ => none
 | .fadr off x, fr, H => match opd fr x with
  | .optr k ver i o => match H[k]? with
   | some e => if e.ver = ver then some (.optr k ver i (o + off), H) else none
   | none => none
  | .p (.cptr cells) => if off ≤ cells.length then some (.p (.cptr (cells.drop off)), H) else none
  | _ => none
 | .fld off n ag x, fr, H => if off + n ≤ (opd fr x).cells.length ∧ (opd fr x).isAgg = true then
   match fromCells ag (((opd fr x).cells.drop off).take n) with | some v => some (v, H) | none => none
  else none
 | .iadr size x i, fr, H => match intOf? (opd fr i) with
  | some i => match opd fr x with
   | .own k off len ver => match H[k]? with
    | some e => if 0 ≤ i ∧ i < len ∧ e.ver = ver ∧ e.size = size then some (.optr k ver (off + i.toNat) 0, H) else none
    | none => none
   | .p (.lst es) => if 0 ≤ i then match es[i.toNat]? with
     | some e => if e.cells.length = size then some (.p (.cptr e.cells), H) else none
     | none => none
    else none
   | .tight es => if 0 ≤ i then match es[i.toNat]? with
     | some e => if e.cells.length = size then some (.p (.cptr e.cells), H) else none
     | none => none
    else none
   | _ => none
  | none => none
 | .iaadr len size x i, fr, H => match intOf? (opd fr i) with
  | some i => match opd fr x with
   | .optr k ver j o => match H[k]? with
    | some e => if 0 ≤ i ∧ i < len ∧ e.ver = ver then some (.optr k ver j (o + i.toNat * size), H) else none
    | none => none
   | .p (.cptr cells) => if 0 ≤ i ∧ i < len ∧ i.toNat * size ≤ cells.length then some (.p (.cptr (cells.drop (i.toNat * size))), H) else none
   | _ => none
  | none => none
 | .istr x i, fr, H => match opd fr x, intOf? (opd fr i) with
  | .p (.str s), some i => if 0 ≤ i then match s[i.toNat]? with | some b => some (.p (.int .u8 b.toNat), H) | none => none else none
  | _, _ => none
 | .iarr len size ag x i, fr, H => match intOf? (opd fr i) with
  | some i => if 0 ≤ i ∧ i < len ∧ (i.toNat + 1) * size ≤ (opd fr x).cells.length ∧ (opd fr x).isAgg = true then
    match fromCells ag (((opd fr x).cells.drop (i.toNat * size)).take size) with | some v => some (v, H) | none => none
   else none
  | none => none
 | .ext x i, fr, H => match opd fr x with
  | .p (.tup l) => match l[i]? with | some v => some (.p v, H) | none => none
  | .tup l => match l[i]? with | some v => some (v, H) | none => none
  | _ => none
 | .call f args, fr, H => callF T f (args.map (opd fr)) H
 | .calle f args, fr, H => match allP (args.map (opd fr)) with
  | some ps => match T.ex f ps with | some x => some (.p x, H) | none => none
  | none => none
 | .callv x args, fr, H => match opd fr x with
  | .p (.clo f caps) => callF T f (args.map (opd fr) ++ caps.map .p) H
  | .clo f caps => callF T f (args.map (opd fr) ++ caps) H
  | _ => none
 | .lenS x, fr, H => match opd fr x with | .p (.str s) => some (.p (.int .i64 s.length), H) | _ => none
 | .len x, fr, H => match lenOf? H (opd fr x) with | some n => some (.p (.int .i64 n), H) | none => none
 | .app size bytes ty x y, fr, H => match sliceOf H (opd fr y) with
  | some ys => appV size bytes ty (opd fr x) ys H
  | none => none
 | .appS bytes ty x y, fr, H => match opd fr y with
  | .p (.str s) => appV 1 bytes ty (opd fr x) (s.map fun b => .p (.int .u8 b.toNat)) H
  | _ => none
 | .cpy size x y, fr, H => match sliceOf H (opd fr y) with
  | some ys => if ys.all (fun y => y.cells.length == size && y.cells.all AVal.isCell) = true ∧ 0 < size then
    match opd fr x with
    | .own k off len ver => match H[k]? with
     | some e => if e.ver = ver ∧ e.size = size ∧ e.froz = false ∧ off + len ≤ e.elems.length ∧ 0 < len then
       some (.p (.int .i64 (min ys.length len)), H.set k ⟨e.size, e.ver, e.froz, e.elems.take off ++ ys.take len ++ e.elems.drop (off + min ys.length len), e.ty⟩)
      else none
     | none => none
    | _ => none
   else none
  | none => none
 | .clr size z x, fr, H => match opd fr x with
  | .own k off len ver => match H[k]? with
   | some e => if e.ver = ver ∧ e.size = size ∧ e.froz = false ∧ off + len ≤ e.elems.length ∧ 0 < len then
     some (.p (.tup []), H.set k ⟨e.size, e.ver, e.froz, e.elems.take off ++ List.replicate len z ++ e.elems.drop (off + len), e.ty⟩)
    else none
   | none => none
  | _ => none
 | .minmax mx x y, fr, H => match opd fr x, opd fr y with
  | .p (.int k a), .p (.int k' b) => if k = k' then some (.p (.int k (if mx then (if a < b then b else a) else (if b < a then b else a))), H) else none
  | _, _ => none
 | .re x, fr, H => match opd fr x with | .p (.cpx k a _) => some (.p (.flt k a), H) | _ => none
 | .im x, fr, H => match opd fr x with | .p (.cpx k _ b) => some (.p (.flt k b), H) | _ => none
 | .mkc x y, fr, H => match opd fr x, opd fr y with
  | .p (.flt k a), .p (.flt k' b) => if k = k' then some (.p (.cpx k a b), H) else none
  | _, _ => none
 | .bad, _, _ => none
def put (fr : AFr) (d : Option Nat) (v : AVal) : AFr := match d with | some d => upd fr d v | none => fr
def evalV (T : Tab) (o : LOper) (fr : AFr) (H : Heap) : Option (AVal × Heap) :=
 match o.guard with
 | none => evalOp T o.op fr H
 | some (s, want) => match fr s with
  | .p (.bool b) => if b = want then evalOp T o.op fr H else some (.p (.tup []), H)
  | .p (.tup _) => some (.p (.tup []), H)
  | _ => none
def evalL (T : Tab) : List LOper → AFr → Heap → Option (AFr × Heap)
 | [], fr, H => some (fr, H)
 | o :: r, fr, H => match evalV T o fr H with | some (x, H') => evalL T r (put fr o.dst x) H' | none => none
def evalD (T : Tab) (H : Heap) (Q : AFr → Prop) : List LOper → AFr → Prop
 | [], fr => Q fr
 | o :: r, fr => match evalV T o fr H with
  | some (x, H') => H' = H ∧ evalD T H Q r (put fr o.dst x)
  | none => False
def pureOp : LOp → Bool
 | .mov _ => true
 | .pick _ _ _ => true
 | .build _ _ => true
 | .bin _ _ _ => true
 | .eqB _ _ _ => true
 | .eqA _ _ _ _ => true
 | .eqS _ _ _ => true
 | .un _ _ => true
 | .fld _ _ _ _ => true
 | .istr _ _ => true
 | .iarr _ _ _ _ _ => true
 | .ext _ _ => true
 | .lenS _ => true
 | .minmax _ _ _ => true
 | .slStr _ _ _ => true
 | .mkf _ _ => true
 | .calle _ _ => true
 | _ => false
def readerOp : LOp → Bool
 | .load _ _ _ => true
 | .nilc _ => true
 | .fadr _ _ => true
 | .iadr _ _ _ => true
 | .iaadr _ _ _ _ => true
 | .len _ => true
 | .slSl _ _ _ _ _ => true
 | _ => false
def idxOf : AVal → List Nat
 | .own k _ _ _ => [k]
 | .optr k _ _ _ => [k]
 | _ => []
def touched (fr : AFr) : LOp → List Nat
 | .load _ _ a => idxOf (opd fr a)
 | .nilc x => idxOf (opd fr x)
 | .fadr _ x => idxOf (opd fr x)
 | .iadr _ x _ => idxOf (opd fr x)
 | .iaadr _ _ x _ => idxOf (opd fr x)
 | .len x => idxOf (opd fr x)
 | .slSl _ x _ _ _ => idxOf (opd fr x)
 | _ => []
def sideW (W : List Nat) (N : Nat) (o : LOper) (fr : AFr) (H H' : Heap) : Prop :=
 if readerOp o.op = true then ∀ k ∈ touched fr o.op, k < N ∧ k ∉ W else ∀ k, k < N → k ∉ W → H'[k]? = H[k]?
def midH (N R : Nat) (H M : Heap) : Heap := H.take N ++ M ++ H.drop (N + R)
def condW (T : Tab) (W : List Nat) (N : Nat) (fl : Fl) (o : LOper) (fr : AFr) (H : Heap) (x : AVal) (H' : Heap) : Prop := match fl with
 | .s => sideW W N o fr H H'
 | .t => ∀ G, evalV T o fr G = some (x, G)
 | .c R => (N + R ≤ H.length ∧ N + R ≤ H'.length) ∧ sideW W N o fr H H' ∧ ∀ M : Heap, M.length = R → evalV T o fr (midH N R H M) = some (x, midH N R H' M)
 | _ => True
def evalW (T : Tab) (W : List Nat) (N : Nat) (Q : AFr → Heap → Prop) : List (LOper × Fl) → AFr → Heap → Prop
 | [], fr, H => Q fr H
 | (o, fl) :: r, fr, H => match evalV T o fr H with
  | some (x, H') => condW T W N fl o fr H x H' ∧ evalW T W N Q r (put fr o.dst x) H'
  | none => False
def newAt (k : Nat) (op : LOp) (fr : AFr) (H : Heap) : Option (AVal × Heap) := match op with
 | .newv size ty x =>
  if (opd fr x).cells.length = size ∧ 0 < size ∧ (opd fr x).cells.all AVal.isCell = true then
   match H[k]? with
   | some e => if e.elems.isEmpty = true then some (.optr k (e.ver + 1) 0 0, H.set k ⟨size, e.ver + 1, false, [opd fr x], ty⟩) else none
   | none => none
  else none
 | _ => none
def evalX (T : Tab) (N : Nat) (fl : Fl) (o : LOper) (fr : AFr) (H : Heap) : Option (AVal × Heap) := match fl with
 | .n r => newAt (N + r) o.op fr H
 | _ => evalV T o fr H
def evalN (T : Tab) (W : List Nat) (N : Nat) (Q : AFr → Heap → Prop) : List (LOper × Fl) → AFr → Heap → Prop
 | [], fr, H => Q fr H
 | (o, fl) :: r, fr, H => match evalX T N fl o fr H with
  | some (x, H') => condW T W N fl o fr H x H' ∧ evalN T W N Q r (put fr o.dst x) H'
  | none => False
def kept : Ent := ⟨1, 0, false, [], 0⟩
inductive LExit where
 | normal
 | exit (id : Nat)
 | ret
def thenQ (next : AFr → Heap → Prop) (Q : LExit → AFr → Heap → Prop) : LExit → AFr → Heap → Prop
 | .normal, fr, H => next fr H
 | e, fr, H => Q e fr H
def blockQ (id : Nat) (Q : LExit → AFr → Heap → Prop) : LExit → AFr → Heap → Prop
 | .exit j, fr, H => if j = id then Q .normal fr H else Q (.exit j) fr H
 | e, fr, H => Q e fr H
def vc (T : Tab) : LCode → (LExit → AFr → Heap → Prop) → AFr → Heap → Prop
 | .skip, Q, fr, H => Q .normal fr H
 | .region ops, Q, fr, H => match evalL T ops fr H with | some (fr', H') => Q .normal fr' H' | none => False
 | .regionD ops, Q, fr, H => evalD T H (fun fr' => Q .normal fr' H) ops fr
 | .regionW ops, Q, fr, H => ∃ W : List Nat, evalW T W H.length (fun fr' H' => Q .normal fr' H') ops fr H
 | .regionN R ops, Q, fr, H => ∃ W : List Nat, evalN T W H.length (fun fr' H' => Q .normal fr' H') ops fr (H ++ List.replicate R kept)
 | .seq a b, Q, fr, H => vc T a (thenQ (fun fr' H' => vc T b Q fr' H') Q) fr H
 | .cond c a b, Q, fr, H => match opd fr c with
  | .p (.bool t) => if t = true then vc T a Q fr H else vc T b Q fr H
  | .anyb => vc T a Q fr H ∧ vc T b Q fr H
  | _ => False
 | .block id b, Q, fr, H => vc T b (blockQ id Q) fr H
 | .loop b, Q, fr, H => ∃ (I : AFr → Heap → Prop) (μ : AFr → Heap → Nat), I fr H ∧
   ∀ fr H, I fr H → vc T b (thenQ (fun fr' H' => I fr' H' ∧ μ fr' H' < μ fr H) Q) fr H
 | .exit id, Q, fr, H => Q (.exit id) fr H
 | .ret, Q, fr, H => Q .ret fr H
 | .bad, _, _, _ => False
def constCell : Value → AVal
 | .bool b => .p (.bool b)
 | .int k n => .p (.int k n)
 | .float k b => .p (.flt k b)
 | .complex k a b => .p (.cpx k a b)
 | .string s => if s.data.size ≤ 1000000 then .p (.str s.data.toList) else .junk
 | .pointer a => if a.isNone then .p .nilp else .junk
 | .slice a n c => if a.isNone ∧ n = 0 ∧ c = 0 then .tight [] else .junk
 | .func fn first caps => match fn with
  | .func f => if first.size = 0 ∧ caps.size = 0 then .p (.clo f []) else .junk
  | _ => .junk
 | .nilFunc => .p .nilf
 | .nilIface => .p .nili
 | _ => .junk
def constA : Value → AVal
 | .agg cs => if (cs.toList.map constCell).all AVal.isCell then mkAgg (cs.toList.map constCell) else .junk
 | v => constCell v
def lowOpd (gl : Nat → AVal) (n : Nat) : Operand → LOpd
 | .tmp t => if t < n then .tmp t else .cst .junk
 | .const v => .cst (constA v)
 | .global g => .cst (gl g)
 | .func f => .cst (.p (.clo f []))
def isAggT (P : Program) (t : TypeId) : Bool := match P.underlying t with
 | some (.struct _) => true
 | some (.array _ _) => true
 | _ => false
def sizeT (P : Program) (t : TypeId) : Nat := match P.underlying t with | some _ => (match P.info? t with | some i => i.size | none => 0) | none => 0
def bytesT (P : Program) (t : TypeId) : Nat := match P.info? t with | some i => i.bytes | none => 0
def zeroT (P : Program) (t : TypeId) : AVal := match P.info? t with | some i => (match i.zero with | some v => constA v | none => .junk) | none => .junk
def scalarK (P : Program) (t : TypeId) : Option SK := match P.underlying t with
 | some .bool => some .b
 | some (.int _) => some .i
 | some .string => some .s
 | _ => none
def flatK (P : Program) (t : TypeId) : Option (List SK) := match P.underlying t with
 | some (.struct fields) => if !P.stoodInHeld t && fields.toList.all (fun f => f.name != "_") && (fields.toList.map (·.offset) == List.range fields.size) && !P.eqGuardType P.depth t then
   mapO (fun f => scalarK P f.type) fields.toList
  else none
 | _ => none
section
variable (P : Program) (gl : Nat → AVal) (n : Nat)
def lowBuiltin1 (b : Builtin) (argTypes : Array TypeId) (x : Operand) : LOp :=
 match b with
 | .len => match argTypes[0]? with
  | some t => match P.underlying t with
   | some .string => .lenS (lowOpd gl n x)
   | some (.slice _) => .len (lowOpd gl n x)
   | _ => .bad
  | none => .bad
 | .real => .re (lowOpd gl n x)
 | .imag => .im (lowOpd gl n x)
 | .clear => match argTypes.toList with
  | [t] => match P.underlying t with
   | some (.slice e) => if (zeroT P e).cells.length = sizeT P e ∧ (zeroT P e).cells.all AVal.isCell = true ∧ sizeT P e ≠ 0 then .clr (sizeT P e) (zeroT P e) (lowOpd gl n x) else .bad
   | _ => .bad
  | _ => .bad
 | _ => .bad
def lowBuiltin2 (b : Builtin) (argTypes : Array TypeId) (x y : Operand) : LOp :=
 match b with
 | .append => match argTypes.toList with
  | [t, u] => match P.underlying t with
   | some (.slice e) => if (zeroT P e).cells.length = sizeT P e ∧ (zeroT P e).cells.all AVal.isCell = true then
     (if t = u then .app (sizeT P e) (bytesT P e) e (lowOpd gl n x) (lowOpd gl n y) else
      match P.underlying u with
      | some .string => if sizeT P e = 1 then .appS (bytesT P e) e (lowOpd gl n x) (lowOpd gl n y) else .bad
      | _ => .bad)
    else .bad
   | _ => .bad
  | _ => .bad
 | .copy => match argTypes.toList with
  | [t, u] => if t = u then (match P.underlying t with
   | some (.slice e) => if sizeT P e = 0 then .bad else .cpy (sizeT P e) (lowOpd gl n x) (lowOpd gl n y)
   | _ => .bad) else .bad
  | _ => .bad
 | .max => .minmax true (lowOpd gl n x) (lowOpd gl n y)
 | .min => .minmax false (lowOpd gl n x) (lowOpd gl n y)
 | .complex => .mkc (lowOpd gl n x) (lowOpd gl n y)
 | _ => .bad
def lowBuiltin (b : Builtin) (argTypes : Array TypeId) (args : List Operand) : LOp :=
 match args with
 | [x] => lowBuiltin1 P gl n b argTypes x
 | [x, y] => lowBuiltin2 P gl n b argTypes x y
 | _ => .bad
def goodFn (f : FuncId) : Bool := match P.funcs[f]? with
 | some fn => !(fn.name == "runtime.NumGoroutine") && !fn.body.isNone
 | none => false
def isNilC : Operand → Bool
 | .const (.slice none 0 0) => true
 | _ => false
def lowOp (o : Op) : LOp :=
 let d := lowOpd gl n
 match o with
 | .move x => .mov (d x)
 | .assign x => .mov (d x)
 | .pick c a b => .pick (d c) (d a) (d b)
 | .box e x => .newv (sizeT P e) e (d x)
 | .alloc e => .newv (sizeT P e) e (.cst (zeroT P e))
 | .build t parts => match P.underlying t with
  | some (.struct fields) => if fields.toList.all (fun f => (P.underlying f.type).isSome) then .build (zeroT P t) (parts.toList.map fun (i, x) => match fields[i]? with | some f => (f.offset, sizeT P f.type, d x) | none => (0, 0, .cst .junk)) else .bad
  | some (.array _ e) => if (P.underlying e).isSome then .build (zeroT P t) (parts.toList.map fun (i, x) => (i * sizeT P e, sizeT P e, d x)) else .bad
  | _ => .bad
 | .buildSlice t len parts => match P.underlying t with
  | some (.slice e) => .buildSl (sizeT P e) e (zeroT P e) len (parts.toList.map fun (i, x) => (i, d x))
  | _ => .bad
 | .load t a => if (P.underlying t).isSome then .load (sizeT P t) (isAggT P t) (d a) else .bad
 | .store t a x => if (P.underlying t).isSome then .store (sizeT P t) (d a) (d x) else .bad
 | .nilCheck x => .nilc (d x)
 | .binOp op t x y _ => match op with
  | .eql => match P.underlying t with
   | some .bool => .eqB false (d x) (d y)
   | some (.int _) => .bin .eql (d x) (d y)
   | some .string => .bin .eql (d x) (d y)
   | some (.float _) => .bin .eql (d x) (d y)
   | _ => match flatK P t with
    | some ks => .eqA false ks (d x) (d y)
    | none => match P.underlying t with
     | some (.pointer _) => .eqN false false (d x) (d y)
     | some (.func _ _ _) => .eqN false true (d x) (d y)
     | some (.slice _) => if isNilC y then .eqS false (d x) (d y) else .bad
     | _ => .bad
  | .neq => match P.underlying t with
   | some .bool => .eqB true (d x) (d y)
   | some (.int _) => .bin .neq (d x) (d y)
   | some .string => .bin .neq (d x) (d y)
   | some (.float _) => .bin .neq (d x) (d y)
   | _ => match flatK P t with
    | some ks => .eqA true ks (d x) (d y)
    | none => match P.underlying t with
     | some (.pointer _) => .eqN true false (d x) (d y)
     | some (.func _ _ _) => .eqN true true (d x) (d y)
     | some (.slice _) => if isNilC y then .eqS true (d x) (d y) else .bad
     | _ => .bad
  | op => .bin op (d x) (d y)
 | .unOp op _ x => .un op (d x)
 | .convert s t x => match P.underlying s, P.underlying t with
  | some (.int _), some (.int k) => .conv (.toInt k) (d x)
  | some .string, some .string => .conv .same (d x)
  | some .string, some (.slice e) => (match P.underlying e with | some (.int .u8) => .conv .s2b (d x) | _ => .bad)
  | some (.slice _), some (.slice e) => if s = t then (match P.underlying e with | some (.int .u8) => .conv .mark (d x) | _ => .bad) else .bad
  | some (.slice e), some .string => (match P.underlying e with | some (.int .u8) => .conv .b2s (d x) | _ => .bad)
  | _, _ => .bad
 | .makeFunc fn first caps => match fn with
  | .func f => if first.size = 0 then .mkf f (caps.toList.map d) else .bad
  | _ => .bad
 | .makeSlice t l c => match P.underlying t with
  | some (.slice e) => .mksl (sizeT P e) (bytesT P e) e (zeroT P e) (d l) (d c)
  | _ => .bad
 | .slice t x lo hi mx => match P.underlying t with
  | some .string => if mx.isNone then .slStr (d x) (lo.map d) (hi.map d) else .bad
  | some (.slice e) => if sizeT P e = 0 then .bad else .slSl (sizeT P e) (d x) (lo.map d) (hi.map d) (mx.map d)
  | _ => .bad
 | .fieldAddr t x f => match P.underlying t with
  | some (.struct fields) => match fields[f]? with
   | some g => if sizeT P g.type = 0 then .bad else .fadr g.offset (d x)
   | none => .bad
  | _ => .bad
 | .field t x f => match P.underlying t with
  | some (.struct fields) => match fields[f]? with
   | some g => if (P.underlying g.type).isSome then .fld g.offset (sizeT P g.type) (isAggT P g.type) (d x) else .bad
   | none => .bad
  | _ => .bad
 | .indexAddr t x i => match P.underlying t with
  | some (.slice e) => if sizeT P e = 0 then .bad else .iadr (sizeT P e) (d x) (d i)
  | some (.array len e) => if sizeT P e = 0 then .bad else .iaadr len (sizeT P e) (d x) (d i)
  | _ => .bad
 | .index t x i => match P.underlying t with
  | some .string => .istr (d x) (d i)
  | some (.array len e) => if (P.underlying e).isSome then .iarr len (sizeT P e) (isAggT P e) (d x) (d i) else .bad
  | _ => .bad
 | .extract x i => .ext (d x) i
 | .call cl => match cl.callee with
  | .value o => match o with
   | .func f => if goodFn P f then .call f (cl.args.toList.map d) else .calle f (cl.args.toList.map d)
   | y => .callv (d y) (cl.args.toList.map d)
  | .builtin b => lowBuiltin P gl n b cl.argTypes cl.args.toList
  | _ => .bad
 | _ => .bad
def lowGuard (ops : Array Oper) : Option (Nat × Bool) → Option (Option (Nat × Bool))
 | none => some none
 | some (j, want) => match (ops[j]?).bind (·.dst) with
  | some s => if s < n then some (some (s, want)) else none
  | none => none
def lowOper (ops : Array Oper) (o : Oper) : LOper :=
 match lowGuard n ops o.guard with
 | some g => ⟨o.dst, g, lowOp P gl n o.op⟩
 | none => ⟨o.dst, none, .bad⟩
def slotOf : LOpd → List Nat
 | .tmp t => [t]
 | .cst _ => []
def optSlots : Option LOpd → List Nat
 | none => []
 | some x => slotOf x
def readsOp : LOp → List Nat
 | .mov x => slotOf x
 | .pick c a b => slotOf c ++ slotOf a ++ slotOf b
 | .newv _ _ x => slotOf x
 | .build _ parts => parts.flatMap fun p => slotOf p.2.2
 | .buildSl _ _ _ _ parts => parts.flatMap fun p => slotOf p.2
 | .load _ _ a => slotOf a
 | .store _ a x => slotOf a ++ slotOf x
 | .nilc x => slotOf x
 | .bin _ x y => slotOf x ++ slotOf y
 | .eqB _ x y => slotOf x ++ slotOf y
 | .eqA _ _ x y => slotOf x ++ slotOf y
 | .eqN _ _ x y => slotOf x ++ slotOf y
 | .eqS _ x y => slotOf x ++ slotOf y
 | .un _ x => slotOf x
 | .conv _ x => slotOf x
 | .mkf _ caps => caps.flatMap slotOf
 | .mksl _ _ _ _ l c => slotOf l ++ slotOf c
 | .slStr x lo hi => slotOf x ++ optSlots lo ++ optSlots hi
 | .slSl _ x lo hi mx => slotOf x ++ optSlots lo ++ optSlots hi ++ optSlots mx
 | .fadr _ x => slotOf x
 | .fld _ _ _ x => slotOf x
 | .iadr _ x i => slotOf x ++ slotOf i
 | .iaadr _ _ x i => slotOf x ++ slotOf i
 | .istr x i => slotOf x ++ slotOf i
 | .iarr _ _ _ x i => slotOf x ++ slotOf i
 | .ext x _ => slotOf x
 | .call _ args => args.flatMap slotOf
 | .calle _ args => args.flatMap slotOf
 | .callv x args => slotOf x ++ args.flatMap slotOf
 | .lenS x => slotOf x
 | .len x => slotOf x
 | .app _ _ _ x y => slotOf x ++ slotOf y
 | .appS _ _ x y => slotOf x ++ slotOf y
 | .cpy _ x y => slotOf x ++ slotOf y
 | .clr _ _ x => slotOf x
 | .minmax _ x y => slotOf x ++ slotOf y
 | .re x => slotOf x
 | .im x => slotOf x
 | .mkc x y => slotOf x ++ slotOf y
 | .bad => []
def readsO (o : LOper) : List Nat := readsOp o.op ++ (match o.guard with | some (s, _) => [s] | none => [])
def dstIn (o : LOper) (l : List Nat) : Bool := match o.dst with | some d => l.contains d | none => false
def apartO (x y : LOper) : Bool := !dstIn x (readsO y) && !dstIn y (readsO x) && !(x.dst.isSome && x.dst == y.dst)
def freeAt (ops : Array Oper) (listed : Array Bool) (k : Nat) : Bool :=
 (List.range ops.size).all fun j => j == k || listed.getD j true || ((ops[j]?).map fun o => o.after.any fun e => Region.binds .any e && e.on == k).getD false ||
  (match ops[k]?, ops[j]? with | some ok, some oj => apartO (lowOper P gl n ops ok) (lowOper P gl n ops oj) | _, _ => false)
def lexOk (ops : Array Oper) : Nat → Nat → Array Bool → Bool
 | 0, _, listed => (Region.ready .any ops listed).isEmpty
 | m + 1, k, listed => (Region.ready .any ops listed).contains k && freeAt P gl n ops listed k && lexOk ops m (k + 1) (listed.setIfInBounds k true)
def drawOk (ops : Array Oper) : Bool := lexOk P gl n ops ops.size 0 (Array.replicate ops.size false)
def rwPair (x y : LOper) : Bool := (readerOp x.op && !pureOp y.op && !readerOp y.op) || (readerOp y.op && !pureOp x.op && !readerOp x.op)
def callOp : LOp → Bool
 | .call _ _ => true
 | .callv _ _ => true
 | _ => false
def turner (x : LOper) : Bool := !pureOp x.op && !readerOp x.op
def ttPair (x y : LOper) : Bool := turner x && turner y && (callOp x.op || callOp y.op)
def ancE (acc : List Nat) (m : Nat) (e : Edge) : Nat := if Region.binds .any e then m ||| (1 <<< e.on) ||| acc.getD e.on 0 else m
def ancOf (acc : List Nat) (o : Oper) : Nat := o.after.toList.foldl (ancE acc) 0
def ancs : List Oper → List Nat → List Nat
 | [], acc => acc
 | o :: r, acc => ancs r (acc ++ [ancOf acc o])
def ancA (ops : Array Oper) : List Nat := ancs ops.toList []
def behind (anc : List Nat) (j k : Nat) : Bool := (anc.getD j 0).testBit k
def openTo (p : LOper → LOper → Bool) (ops : Array Oper) (k : Nat) : Bool :=
 (List.range ops.size).any fun j => j != k && (match ops[k]?, ops[j]? with
  | some ok, some oj => p (lowOper P gl n ops ok) (lowOper P gl n ops oj) && !behind (ancA ops) k j && !behind (ancA ops) j k
  | _, _ => false)
def freshO (x : LOper) : Bool := (match x.op with | .newv _ _ _ => true | _ => false) && x.guard.isNone
def freshAt (ops : Array Oper) (j : Nat) : Bool := match ops[j]? with | some o => freshO (lowOper P gl n ops o) | none => false
def rankOf (ops : Array Oper) (k : Nat) : Nat := (List.range k).countP (freshAt P gl n ops)
def flagOf (b : Bool) (ops : Array Oper) (k : Nat) : Fl :=
 if (b && freshAt P gl n ops k) = true then .n (rankOf P gl n ops k) else
 if openTo P gl n (fun x y => callOp x.op && ttPair x y && !(b && freshO y)) ops k = true then .t else if (b && openTo P gl n (fun x y => callOp x.op && ttPair x y) ops k) = true then .c (rankOf P gl n ops ops.size) else if openTo P gl n rwPair ops k = true then .s else .f
def appO (x : LOper) : Bool := (match x.op with | .buildSl _ _ _ len _ => decide (0 < len) | _ => false) && x.guard.isNone
def compatO (b : Bool) (x y : LOper) : Bool := pureOp x.op || pureOp y.op || (readerOp x.op && readerOp y.op) || rwPair x y || ttPair x y || (b && freshO x && freshO y) || (b && freshO x && appO y) || (b && appO x && freshO y)
def freeAtW (b : Bool) (ops : Array Oper) (listed : Array Bool) (k : Nat) : Bool :=
 (List.range ops.size).all fun j => j == k || listed.getD j true || behind (ancA ops) j k ||
  (match ops[k]?, ops[j]? with | some ok, some oj => apartO (lowOper P gl n ops ok) (lowOper P gl n ops oj) && compatO b (lowOper P gl n ops ok) (lowOper P gl n ops oj) | _, _ => false)
def lexOkW (b : Bool) (ops : Array Oper) : Nat → Nat → Array Bool → Bool
 | 0, _, listed => (Region.ready .any ops listed).isEmpty
 | m + 1, k, listed => (Region.ready .any ops listed).contains k && freeAtW P gl n b ops listed k && lexOkW b ops m (k + 1) (listed.setIfInBounds k true)
def drawOkW (b : Bool) (ops : Array Oper) : Bool := lexOkW P gl n b ops ops.size 0 (Array.replicate ops.size false)
def turnsOp : LOp → Bool
 | .store _ _ _ => true
 | .newv _ _ _ => true
 | .buildSl _ _ _ _ _ => true
 | .mksl _ _ _ _ _ _ => true
 | .app _ _ _ _ _ => true
 | .appS _ _ _ _ => true
 | .cpy _ _ _ => true
 | .clr _ _ _ => true
 | _ => false
def flagged (b : Bool) (ops : Array Oper) (k : Nat) (l : List Oper) : List (LOper × Fl) := match l with
 | [] => []
 | o :: r => (lowOper P gl n ops o, flagOf P gl n b ops k) :: flagged b ops (k + 1) r
def lowCode : Code → LCode
 | .skip => .skip
 | .region _ ops draw => if draw then (if ops.toList.any (fun o => turnsOp (lowOp P gl n o.op)) then (if drawOkW P gl n false ops then .regionW (flagged P gl n false ops 0 ops.toList) else if drawOkW P gl n true ops then .regionN (rankOf P gl n ops ops.size) (flagged P gl n true ops 0 ops.toList) else .bad) else if drawOk P gl n ops then .regionD (ops.toList.map (lowOper P gl n ops)) else .bad) else .region (ops.toList.map (lowOper P gl n ops))
 | .seq a b => .seq (lowCode a) (lowCode b)
 | .cond c a b => .cond (lowOpd gl n c) (lowCode a) (lowCode b)
 | .block id b => .block id (lowCode b)
 | .loop b => .loop (lowCode b)
 | .exit id => .exit id
 | .ret => .ret
 | _ => .bad
def lowRes (n : Nat) : ResultVar → Option LRes
 | .tmp t => if t < n then some (.slot t) else none
 | .cell a t => if a < n ∧ (P.underlying t).isSome = true then some (.cell a (sizeT P t) (isAggT P t)) else none
def lowFunc (f : FuncId) : Option LFunc := match P.funcs[f]? with
 | some fn => if goodFn P f then match fn.body with
  | some code => match mapO (lowRes P fn.ntmps) fn.results.toList with
   | some rs => some ⟨fn.ntmps, rs, lowCode P gl fn.ntmps code⟩
   | none => none
  | none => none
  else none
 | none => none
end
def resOne (T : Tab) (fr : AFr) (H : Heap) : LRes → Option AVal
 | .slot t => some (fr t)
 | .cell t n ag => match evalOp T (.load n ag (.tmp t)) fr H with | some (x, _) => some x | none => none
def finish (T : Tab) (rs : List LRes) (fr : AFr) (H : Heap) : Option AVal :=
 match mapO (resOne T fr H) rs with
 | some [x] => some x
 | some xs => (match allP xs with | some ps => some (.p (.tup ps)) | none => some (.tup xs))
 | none => none
def finishP (T : Tab) (rs : List LRes) (fr : AFr) (H : Heap) : Option PVal := match finish T rs fr H with
 | some x => resolveV H fuel x
 | none => none
def endQ (T : Tab) (rs : List LRes) (x : PVal) : LExit → AFr → Heap → Prop
 | .exit _, _, _ => False
 | _, fr, H => finishP T rs fr H = some x
def initFr (args : List AVal) : AFr := fun i => match args[i]? with | some x => x | none => .p (.tup [])
def pureS (s : List PVal → Option PVal) (args : List PVal) : Option (AVal × Heap) := match s args with | some x => some (.p x, []) | none => none
end Go.Abs

/-
 ABS, part C: the lowered operations are sound: what the evaluation says of an operation, the model's operation does.
-/
namespace Go.Abs
variable {P : Program} {base : Prot}
theorem PVal.isCell_cells {x : PVal} (h : x.isCell = true) : x.cells = [x] := by
 cases x <;> simp_all [PVal.isCell, PVal.cells]
theorem AVal.isCell_cells {x : AVal} (h : x.isCell = true) : x.cells = [x] := by
 cases x with
 | p y => simp only [AVal.isCell] at h; simp [AVal.cells, PVal.isCell_cells h]
 | _ => simp_all [AVal.isCell, AVal.cells]
theorem PRep.one {pr : Prot} {x : PVal} {v : Value} (r : PRep pr x v) (h : x.isCell = true) : v.oneCell' = true ∧ v.cells = #[v] := by
 cases r <;> simp_all [PVal.isCell, Value.oneCell', Value.cells]
theorem Rep.one {c : Ctx} {x : AVal} {v : Value} (r : Rep c x v) (h : x.isCell = true) : v.oneCell' = true ∧ v.cells = #[v] := by
 cases r with
 | p x v hp => exact hp.one (by simpa [AVal.isCell] using h)
 | own k off len ver l v hl hv hh ho => obtain ⟨a, n, m, rfl⟩ := ho; simp [Value.oneCell', Value.cells]
 | optr k ver i off l v hl hv hh ho => obtain ⟨a, rfl⟩ := ho; simp [Value.oneCell', Value.cells]
 | _ => simp_all [AVal.isCell, Value.oneCell', Value.cells]
def RepC (c : Ctx) (l : List AVal) (vs : List Value) : Prop := RepL c l vs ∧ ∀ x ∈ l, x.isCell = true
theorem RepC.step {c c' : Ctx} {w w' : World} (h : Step c w c' w') {xs : List AVal} {vs : List Value} (r : RepC c xs vs) : RepC c' xs vs := ⟨r.1.step h, r.2⟩
theorem RepL.nil (c : Ctx) : RepL c [] [] := ⟨rfl, fun j x v h => by simp at h⟩
theorem RepL.cons {c : Ctx} {x : AVal} {v : Value} {l : List AVal} {vs : List Value} (h : Rep c x v) (r : RepL c l vs) : RepL c (x :: l) (v :: vs) := by
 refine ⟨by simp [r.1], fun j y u h1 h2 => ?_⟩
 cases j with
 | zero => simp at h1 h2; subst h1; subst h2; exact h
 | succ j => exact r.2 j y u (by simpa using h1) (by simpa using h2)
theorem RepL.append {c : Ctx} {l l' : List AVal} {vs vs' : List Value} (r : RepL c l vs) (r' : RepL c l' vs') : RepL c (l ++ l') (vs ++ vs') := by
 refine ⟨by simp [r.1, r'.1], fun j y u h1 h2 => ?_⟩
 by_cases hj : j < l.length
 ·rw [List.getElem?_append_left hj] at h1
  rw [List.getElem?_append_left (by rw [r.1]; exact hj)] at h2
  exact r.2 j y u h1 h2
 ·rw [List.getElem?_append_right (by omega)] at h1
  rw [List.getElem?_append_right (by rw [r.1]; omega), r.1] at h2
  exact r'.2 _ y u h1 h2
theorem RepL.drop {c : Ctx} {l : List AVal} {vs : List Value} (r : RepL c l vs) (n : Nat) : RepL c (l.drop n) (vs.drop n) :=
 ⟨by simp [r.1], fun j y u h1 h2 => r.2 (n + j) y u (by simpa using h1) (by simpa using h2)⟩
theorem RepL.take {c : Ctx} {l : List AVal} {vs : List Value} (r : RepL c l vs) (n : Nat) : RepL c (l.take n) (vs.take n) := by
 refine ⟨by simp [r.1], fun j y u h1 h2 => ?_⟩
 rw [List.getElem?_take] at h1 h2
 split at h1
 ·rename_i hj; simp only [hj, if_true] at h2; exact r.2 j y u h1 h2
 ·cases h1
theorem RepL.set {c : Ctx} {l : List AVal} {vs : List Value} {x : AVal} {v : Value} (r : RepL c l vs) (h : Rep c x v) (i : Nat) : RepL c (l.set i x) (vs.set i v) := by
 refine ⟨by simp [r.1], fun j y u h1 h2 => ?_⟩
 rw [List.getElem?_set] at h1 h2
 by_cases hij : i = j
 ·subst hij
  simp only [if_true] at h1 h2
  split at h1
  ·rename_i hl; rw [r.1] at h2; simp only [hl, if_true] at h2; cases h1; cases h2; exact h
  ·cases h1
 ·simp only [hij, if_false] at h1 h2; exact r.2 j y u h1 h2
theorem RepC.append {c : Ctx} {l l' : List AVal} {vs vs' : List Value} (r : RepC c l vs) (r' : RepC c l' vs') : RepC c (l ++ l') (vs ++ vs') :=
 ⟨r.1.append r'.1, fun x hx => by rcases List.mem_append.1 hx with h | h; exact r.2 x h; exact r'.2 x h⟩
theorem RepC.drop {c : Ctx} {l : List AVal} {vs : List Value} (r : RepC c l vs) (n : Nat) : RepC c (l.drop n) (vs.drop n) := ⟨r.1.drop n, fun x hx => r.2 x (List.mem_of_mem_drop hx)⟩
theorem RepC.take {c : Ctx} {l : List AVal} {vs : List Value} (r : RepC c l vs) (n : Nat) : RepC c (l.take n) (vs.take n) := ⟨r.1.take n, fun x hx => r.2 x (List.mem_of_mem_take hx)⟩
theorem RepC.ones {c : Ctx} {l : List AVal} {vs : List Value} (r : RepC c l vs) : ∀ v ∈ vs, v.oneCell' = true := by
 intro v hv
 obtain ⟨j, hj, rfl⟩ := List.getElem_of_mem hv
 have hl : j < l.length := by rw [← r.1.1]; exact hj
 exact ((r.1.2 j l[j] vs[j] (by simp) (by simp)).one (r.2 _ (List.getElem_mem hl))).1
theorem Rep.cells {c : Ctx} {x : AVal} {v : Value} (r : Rep c x v) (h : ∀ y ∈ x.cells, y.isCell = true) : RepC c x.cells v.cells.toList := by
 refine ⟨?_, h⟩
 have single : x.isCell = true → RepL c x.cells v.cells.toList := fun hc => by
  rw [AVal.isCell_cells hc, (r.one hc).2]
  exact .cons r (.nil c)
 cases r with
 | junk v => simp [AVal.cells, AVal.isCell] at h
 | p x v hp =>
  by_cases hc : x.isCell = true
  ·exact single (by simpa [AVal.isCell] using hc)
  ·cases hp with
   | agg cells vs hl hr hk =>
    simp only [AVal.cells, PVal.cells, Value.cells]
    refine ⟨by simp [hl], fun j y u h1 h2 => ?_⟩
    rw [List.getElem?_map] at h1
    obtain ⟨z, hz, rfl⟩ := Option.map_eq_some_iff.1 h1
    exact .p _ _ (hr j z u hz (by simpa using h2))
   | tup l vs hl hr =>
    have := h (.p (.tup l)) (by simp [AVal.cells, PVal.cells])
    simp [AVal.isCell, PVal.isCell] at this
   | _ => simp [PVal.isCell] at hc
 | agg cells vs hl hr hk =>
  exact ⟨by simp [AVal.cells, Value.cells, hl], fun j y u h1 h2 => hr j y u h1 (by simpa [Value.cells] using h2)⟩
 | tup l vs hl hr =>
  have := h (.tup l) (by simp [AVal.cells])
  simp [AVal.isCell] at this
 | _ => exact single (by simp [AVal.isCell])
theorem allP_some : ∀ {l : List AVal} {ps : List PVal}, allP l = some ps → l = ps.map .p
 | [], ps, h => by simp [allP] at h; subst h; rfl
 | x :: r, ps, h => by
  cases x <;> simp only [allP] at h <;> try cases h
  rename_i y
  cases hr : allP r with
  | none => simp [hr] at h
  | some qs => simp [hr] at h; subst h; simp [allP_some hr]
theorem rep_mkAgg {c : Ctx} {l : List AVal} {vs : List Value} (r : RepC c l vs) : Rep c (mkAgg l) (.agg vs.toArray) := by
 unfold mkAgg
 cases h : allP l with
 | none => exact .agg l vs r.1.1 r.1.2 r.2
 | some ps =>
  have := allP_some h
  subst this
  refine .p _ _ (.agg ps vs (by simpa using r.1.1) (fun j x v h1 h2 => ?_) (fun x hx => by simpa [AVal.isCell] using r.2 (.p x) (by simpa using hx)))
  have := r.1.2 j (.p x) v (by simp [h1]) h2
  cases this; assumption
theorem mkAgg_cells {l : List AVal} : (mkAgg l).cells = l := by
 unfold mkAgg
 cases h : allP l with
 | none => rfl
 | some ps => simp [AVal.cells, PVal.cells, allP_some h]
theorem rep_fromCells {c : Ctx} {l : List AVal} {vs : List Value} {ag : Bool} {x : AVal} (r : RepC c l vs) (h : fromCells ag l = some x) :
  ∃ v, Rep c x v ∧ (if ag = true then v = .agg vs.toArray else vs = [v]) := by
 unfold fromCells at h
 cases ag with
 | true => simp at h; subst h; exact ⟨_, rep_mkAgg r, by simp⟩
 | false =>
  simp only [Bool.false_eq_true, if_false] at h
  match l, vs, r, h with
  | [y], [v], r, h => simp at h; subst h; exact ⟨v, r.1.2 0 _ v rfl rfl, by simp⟩
  | [y], [], r, h => have := r.1.1; simp at this
  | [y], v :: u :: vs, r, h => have := r.1.1; simp at this
theorem isSome_info {t : TypeId} {d : TypeDesc} (h : P.underlying t = some d) : ∃ i, P.info? t = some i := by
 unfold Program.underlying at h
 cases hi : P.info? t with
 | none => simp [hi] at h
 | some i => exact ⟨i, rfl⟩
theorem run_isAgg {t : TypeId} {d : TypeDesc} (h : P.underlying t = some d) (w : World) : (Go.isAgg t).run P w = .ok (isAggT P t) w := by
 unfold Go.isAgg isAggT
 simp only [Sem.run_bind, run_underlying h, h, Result.andThen_ok]
 cases d <;> simp [Sem.run_pure]
theorem run_sizeT {t : TypeId} {d : TypeDesc} (h : P.underlying t = some d) (w : World) : (sizeOf t).run P w = .ok (sizeT P t) w := by
 obtain ⟨i, hi⟩ := isSome_info h
 simp [sizeOf, typeInfo, hi, sizeT, h]
theorem sizeT_some {t : TypeId} (h : sizeT P t ≠ 0) : ∃ d, P.underlying t = some d := by
 unfold sizeT at h
 cases hu : P.underlying t with
 | none => simp [hu] at h
 | some d => exact ⟨d, rfl⟩
theorem run_load_cells {t : TypeId} {d : TypeDesc} (h : P.underlying t = some d) (w : World) (a : Addr) (vs : List Value) (hn : vs.length = sizeT P t)
  (hc : ∀ (j : Nat) v, vs[j]? = some v → w.cell? (a.add j) = some v) (v : Value) (hv : if isAggT P t = true then v = .agg vs.toArray else vs = [v]) :
  (loadVar t a).run P w = .ok v w := by
 unfold loadVar
 simp only [Sem.run_bind, run_isAgg h, Result.andThen_ok]
 cases hb : isAggT P t with
 | true =>
  simp only [hb, if_true] at hv ⊢
  subst hv
  simp only [Sem.run_bind, run_sizeT h, Result.andThen_ok, ← hn, run_loadCells_list (P := P) w a vs hc, Sem.run_pure]
 | false =>
  simp only [hb, Bool.false_eq_true, if_false] at hv ⊢
  subst hv
  have := hc 0 v rfl
  rw [Addr.add_zero'] at this
  simp [run_load, this]
end Go.Abs

/-
 ABS, part D: what allocating, storing, appending and freezing do to the relation between own arrays and memory.
-/
namespace Go.Abs
variable {P : Program} {base : Prot}
theorem Inv.loc {c : Ctx} {H : Heap} {w : World} (hI : Inv base c H w) {k : Nat} {e : Ent} (h : H[k]? = some e) : ∃ l, c.locs[k]? = some l ∧ EntOk c w e l := by
 have hk : k < c.locs.length := by rw [hI.len]; exact (List.getElem?_eq_some_iff.1 h).1
 exact ⟨c.locs[k], by simp, hI.ent k e _ h (by simp)⟩
theorem Inv.entOf {c : Ctx} {H : Heap} {w : World} (hI : Inv base c H w) {k : Nat} {l : Loc} (h : c.locs[k]? = some l) : ∃ e, H[k]? = some e ∧ EntOk c w e l := by
 have hk : k < H.length := by rw [← hI.len]; exact (List.getElem?_eq_some_iff.1 h).1
 exact ⟨H[k], by simp, hI.ent k _ l (by simp) h⟩
theorem Inv.loced_lt {c : Ctx} {H : Heap} {w : World} (hI : Inv base c H w) {b : Nat} (h : Loced c b) : b < w.heap.size := by
 obtain ⟨k, l, cap, h1, h2⟩ := h
 obtain ⟨e, _, he⟩ := hI.entOf h1
 obtain ⟨cur, ty, hh, _⟩ := he.there b cap h2
 exact (Array.getElem?_eq_some_iff.1 hh).1
theorem Inv.prot_lt {c : Ctx} {H : Heap} {w : World} (hI : Inv base c H w) {b o : Nat} {v : Value} (h : c.prot b o = some v) : b < w.heap.size :=
 World.block_lt_of_cell? w _ (hI.prot b o v h)
theorem EntOk.keep {c c' : Ctx} {w w' : World} {e : Ent} {l : Loc} (h : EntOk c w e l) (hs : Step c w c' w')
  (hb : ∀ g cap, l.place = some (g, cap) → w'.heap[g]? = w.heap[g]?) (hp : ∀ g cap o v, l.place = some (g, cap) → c'.prot g o = some v → c.prot g o = some v) : EntOk c' w' e l where
 ver := h.ver
 size := h.size
 pos := h.pos
 cells := h.cells
 nowhere := h.nowhere
 typed := fun g cap cur ty fr hl hh => h.typed g cap cur ty fr hl ((hb g cap hl).symm.trans hh)
 there := fun g cap hl => by
  obtain ⟨cur, ty, h1, h2, h3, h4, h5, h6⟩ := h.there g cap hl
  exact ⟨cur, ty, (hb g cap hl).trans h1, h2, h3, h4, fun i x j y a b => let ⟨v, p, q⟩ := h5 i x j y a b; ⟨v, p, q.step hs⟩, fun o v ho => h6 o v (hp g cap o v hl ho)⟩
theorem cell_of_heap {w w' : World} {b o : Nat} (h : w'.heap[b]? = w.heap[b]?) : w'.cell? ⟨b, o, none⟩ = w.cell? ⟨b, o, none⟩ := World.cell?_of_block (a := ⟨b, o, none⟩) h
structure Grew (w w' : World) : Prop where
 os : w'.os = w.os
 tape : w'.tape = w.tape
 output : w'.output = w.output
 size : w.heap.size ≤ w'.heap.size
 blk : ∀ b, b < w.heap.size → w'.heap[b]? = w.heap[b]?
theorem Grew.refl (w : World) : Grew w w := ⟨rfl, rfl, rfl, Nat.le_refl _, fun _ _ => rfl⟩
theorem Grew.drew (w : World) : Grew w w.drew := ⟨rfl, rfl, rfl, Nat.le_refl _, fun _ _ => rfl⟩
theorem Grew.alloc {a w : World} (h : Grew a w) (o : Obj) : Grew a (w.alloc o) :=
 ⟨h.os, h.tape, h.output, by rw [World.size_alloc]; exact Nat.le_succ_of_le h.size, fun b hb => (heap_alloc_old w o (Nat.lt_of_lt_of_le hb h.size)).trans (h.blk b hb)⟩
theorem Grew.step {w w' : World} (c : Ctx) (h : Grew w w') : Step c w c w' :=
 ⟨fun _ _ _ h => h, fun _ l h => ⟨l, h, Nat.le_refl _, fun _ => rfl⟩, h.os, h.tape, h.output, h.size, fun b hb _ => h.blk b hb, fun _ h => .inl h, fun _ _ _ h => .inl h⟩
theorem Inv.grew {c : Ctx} {H : Heap} {w w' : World} (hI : Inv base c H w) (h : Grew w w') : Inv base c H w' where
 base := hI.base
 len := hI.len
 prot := fun b o v hv => by rw [cell_of_heap (h.blk b (hI.prot_lt hv))]; exact hI.prot b o v hv
 ent := fun k e l h1 h2 => (hI.ent k e l h1 h2).keep (h.step c) (fun g cap hl => h.blk g (hI.loced_lt ⟨k, l, cap, h2, hl⟩)) (fun _ _ _ _ _ h => h)
 inj := hI.inj
theorem Inv.promise {c : Ctx} {H : Heap} {w w' : World} (hI : Inv base c H w) (h : Grew w w') (pr : Prot) (hle : Prot.le c.prot pr)
  (hnew : ∀ b o v, pr b o = some v → c.prot b o = some v ∨ (w.heap.size ≤ b ∧ w'.cell? ⟨b, o, none⟩ = some v)) : Step c w ⟨c.locs, pr⟩ w' ∧ Inv base ⟨c.locs, pr⟩ H w' := by
 have hs : Step c w ⟨c.locs, pr⟩ w' := ⟨hle, fun _ l h => ⟨l, h, Nat.le_refl _, fun _ => rfl⟩, h.os, h.tape, h.output, h.size, fun b hb _ => h.blk b hb, fun _ h => .inl h,
  fun b o v hv => by rcases hnew b o v hv with h1 | h1; exact .inl h1; exact .inr (.inl h1.1)⟩
 refine ⟨hs, ⟨fun b o v hv => hle _ _ _ (hI.base b o v hv), hI.len, fun b o v hv => ?_, fun k e l h1 h2 => ?_, hI.inj⟩⟩
 ·rcases hnew b o v hv with h1 | h1
  ·rw [cell_of_heap (h.blk b (hI.prot_lt h1))]; exact hI.prot b o v h1
  ·exact h1.2
 ·refine (hI.ent k e l h1 h2).keep hs (fun g cap hl => h.blk g (hI.loced_lt ⟨k, l, cap, h2, hl⟩)) (fun g cap o v hl hv => ?_)
  rcases hnew g o v hv with h3 | h3
  ·exact h3
  ·have := hI.loced_lt ⟨k, l, cap, h2, hl⟩; omega
theorem Inv.alloc {c : Ctx} {H : Heap} {w w1 : World} (hI : Inv base c H w) (hg : Grew w w1) (hsz : w1.heap.size = w.heap.size) (size cap : Nat) (elems : List AVal) (cur : Array Value) (ty : TypeId)
  (hpos : 0 < size) (hc : cur.size = cap * size) (hm : cap ≤ maxLen) (hle : elems.length ≤ cap) (hcells : ∀ x ∈ elems, x.cells.length = size ∧ ∀ y ∈ x.cells, y.isCell = true)
  (hrep : ∀ (i : Nat) x (j : Nat) y, elems[i]? = some x → x.cells[j]? = some y → ∃ v, cur[i * size + j]? = some v ∧ Rep c y v) :
  Step c w ⟨c.locs ++ [⟨0, size, some (w.heap.size, cap)⟩], c.prot⟩ (w1.alloc (.cells cur ty)) ∧
  Inv base ⟨c.locs ++ [⟨0, size, some (w.heap.size, cap)⟩], c.prot⟩ (H ++ [⟨size, 0, false, elems, ty⟩]) (w1.alloc (.cells cur ty)) := by
 have hg2 := hg.alloc (.cells cur ty)
 have hs : Step c w ⟨c.locs ++ [⟨0, size, some (w.heap.size, cap)⟩], c.prot⟩ (w1.alloc (.cells cur ty)) := by
  refine ⟨fun _ _ _ h => h, fun k l h => ⟨l, ?_, Nat.le_refl _, fun _ => rfl⟩, hg2.os, hg2.tape, hg2.output, hg2.size, fun b hb _ => hg2.blk b hb, fun b hb => ?_, fun _ _ _ h => .inl h⟩
  ·exact (List.getElem?_append_left (List.getElem?_eq_some_iff.1 h).1).trans h
  ·obtain ⟨k, l, cp, h1, h2⟩ := hb
   rw [List.getElem?_append] at h1
   split at h1
   ·exact .inl ⟨k, l, cp, h1, h2⟩
   ·rename_i hk
    have : k - c.locs.length = 0 := by
     by_cases h0 : k - c.locs.length = 0
     ·exact h0
     ·rw [List.getElem?_eq_none (by simp; omega)] at h1; cases h1
    rw [this] at h1; simp at h1; subst h1; simp at h2; right; omega
 refine ⟨hs, hI.base, by simp [hI.len], fun b o v hv => ?_, fun k e l h1 h2 => ?_, fun k k' l l' g cp cp' h1 h2 h3 h4 => ?_⟩
 ·rw [cell_of_heap (hg2.blk b (hI.prot_lt hv))]; exact hI.prot b o v hv
 ·by_cases hk : k < H.length
  ·rw [List.getElem?_append_left hk] at h1
   rw [List.getElem?_append_left (by rw [hI.len]; exact hk)] at h2
   exact (hI.ent k e l h1 h2).keep hs (fun g cap hl => hg2.blk g (hI.loced_lt ⟨k, l, cap, h2, hl⟩)) (fun _ _ _ _ _ h => h)
  ·have hk0 : k = H.length := by
    have := (List.getElem?_eq_some_iff.1 h1).1; simp at this; omega
   subst hk0
   rw [List.getElem?_append_right (by omega)] at h1
   rw [List.getElem?_append_right (by rw [hI.len]; omega), hI.len] at h2
   simp at h1 h2
   subst h1; subst h2
   refine ⟨rfl, rfl, hpos, hcells, by simp, fun g cp cur' ty' fr' hl hh => ?_, fun g cp hl => ?_⟩
   ·simp at hl
    obtain ⟨rfl, rfl⟩ := hl
    have hq : (w1.alloc (.cells cur ty)).heap[w.heap.size]? = some (.cells cur ty (0, 0)) := by rw [← hsz]; exact heap_alloc_new _ _
    rw [hq] at hh
    cases hh; rfl
   simp at hl
   obtain ⟨rfl, rfl⟩ := hl
   refine ⟨cur, ty, by rw [← hsz]; exact heap_alloc_new _ _, hc, hm, hle, fun i x j y a b => ?_, fun o v ho => ?_⟩
   ·obtain ⟨v, p, q⟩ := hrep i x j y a b
    exact ⟨v, p, q.step hs⟩
   ·have := hI.prot_lt ho; omega
 · -- two entries at one block
  have lt : ∀ {k : Nat} {l : Loc} {g cp : Nat}, (c.locs ++ [⟨0, size, some (w.heap.size, cap)⟩])[k]? = some l → l.place = some (g, cp) → (k < c.locs.length ∧ c.locs[k]? = some l ∧ g < w.heap.size) ∨ (k = c.locs.length ∧ g = w.heap.size) := by
   intro k l g cp a b
   by_cases hk : k < c.locs.length
   ·rw [List.getElem?_append_left hk] at a
    exact .inl ⟨hk, a, hI.loced_lt ⟨k, l, cp, a, b⟩⟩
   ·have hk0 : k = c.locs.length := by have := (List.getElem?_eq_some_iff.1 a).1; simp at this; omega
    subst hk0
    simp at a; subst a; simp at b
    exact .inr ⟨rfl, b.1.symm⟩
  rcases lt h1 h3 with ⟨a1, a2, a3⟩ | ⟨a1, a2⟩ <;> rcases lt h2 h4 with ⟨b1, b2, b3⟩ | ⟨b1, b2⟩
  ·exact hI.inj k k' l l' g cp cp' a2 b2 h3 h4
  ·omega
  ·omega
  ·omega
end Go.Abs
namespace Go.Abs
variable {P : Program} {base : Prot}
theorem EntOk.ctx {c c' : Ctx} {w w0 w1 : World} {e : Ent} {l : Loc} (h : EntOk c w e l) (hs : Step c w0 c' w1) (hp : c'.prot = c.prot) : EntOk c' w e l where
 ver := h.ver
 size := h.size
 pos := h.pos
 cells := h.cells
 nowhere := h.nowhere
 typed := h.typed
 there := fun g cap hl => by
  obtain ⟨cur, ty, h1, h2, h3, h4, h5, h6⟩ := h.there g cap hl
  exact ⟨cur, ty, h1, h2, h3, h4, fun i x j y a b => let ⟨v, p, q⟩ := h5 i x j y a b; ⟨v, p, q.step hs⟩, fun o v ho => h6 o v (by rw [hp] at ho; exact ho)⟩
theorem Inv.replace {c : Ctx} {H : Heap} {w w' : World} (hI : Inv base c H w) {k : Nat} {l : Loc} (hL : c.locs[k]? = some l) (e' : Ent) (l' : Loc)
  (hos : w'.os = w.os) (ht : w'.tape = w.tape) (ho : w'.output = w.output) (hsz : w.heap.size ≤ w'.heap.size)
  (hblk : ∀ b, b < w.heap.size → (∀ cap, l.place ≠ some (b, cap)) → w'.heap[b]? = w.heap[b]?)
  (hver : l.ver ≤ l'.ver) (hsame : l'.ver = l.ver → l' = l)
  (hplace : ∀ g cap, l'.place = some (g, cap) → (∃ cap0, l.place = some (g, cap0)) ∨ w.heap.size ≤ g)
  (hprot : ∀ b o v, c.prot b o = some v → w'.cell? ⟨b, o, none⟩ = some v) (hok : EntOk c w' e' l') :
  Step c w ⟨c.locs.set k l', c.prot⟩ w' ∧ Inv base ⟨c.locs.set k l', c.prot⟩ (H.set k e') w' := by
 have hk : k < c.locs.length := (List.getElem?_eq_some_iff.1 hL).1
 have hs : Step c w ⟨c.locs.set k l', c.prot⟩ w' := by
  refine ⟨fun _ _ _ h => h, fun i li h => ?_, hos, ht, ho, hsz, fun b hb hn => hblk b hb (fun cap hc => hn ⟨k, l, cap, hL, hc⟩), fun b hb => ?_, fun _ _ _ h => .inl h⟩
  ·by_cases hik : k = i
   ·subst hik
    rw [hL] at h; cases h
    exact ⟨l', by simp [hk], hver, hsame⟩
   ·exact ⟨li, by simp [hik, h], Nat.le_refl _, fun _ => rfl⟩
  ·obtain ⟨i, li, cap, h1, h2⟩ := hb
   by_cases hik : k = i
   ·subst hik
    simp [hk] at h1; subst h1
    rcases hplace b cap h2 with ⟨cap0, h3⟩ | h3
    ·exact .inl ⟨k, l, cap0, hL, h3⟩
    ·exact .inr h3
   ·simp [hik] at h1
    exact .inl ⟨i, li, cap, h1, h2⟩
 refine ⟨hs, hI.base, by simp [hI.len], hprot, fun i ei li h1 h2 => ?_, fun i i' li li' g cp cp' h1 h2 h3 h4 => ?_⟩
 ·by_cases hik : k = i
  ·subst hik
   have hk2 : k < H.length := by rw [← hI.len]; exact hk
   simp [hk2] at h1; simp [hk] at h2
   subst h1; subst h2
   exact hok.ctx hs rfl
  ·simp [hik] at h1 h2
   refine (hI.ent i ei li h1 h2).keep hs (fun g cap hl => hblk g (hI.loced_lt ⟨i, li, cap, h2, hl⟩) (fun cap' hc => hik (hI.inj k i l li g cap' cap hL h2 hc hl))) (fun _ _ _ _ _ h => h)
 ·by_cases hik : k = i <;> by_cases hik' : k = i'
  ·rw [← hik, ← hik']
  ·subst hik
   simp [hk] at h1; subst h1
   simp [hik'] at h2
   rcases hplace g cp h3 with ⟨cap0, h5⟩ | h5
   ·exact hI.inj k i' l li' g cap0 cp' hL h2 h5 h4
   ·have := hI.loced_lt ⟨i', li', cp', h2, h4⟩; omega
  ·subst hik'
   simp [hk] at h2; subst h2
   simp [hik] at h1
   rcases hplace g cp' h4 with ⟨cap0, h5⟩ | h5
   ·exact hI.inj i k li l g cp cap0 h1 hL h3 h5
   ·have := hI.loced_lt ⟨i, li, cp, h1, h3⟩; omega
  ·simp [hik] at h1
   simp [hik'] at h2
   exact hI.inj i i' li li' g cp cp' h1 h2 h3 h4
theorem Inv.allocNil {c : Ctx} {H : Heap} {w : World} (hI : Inv base c H w) (size : Nat) (ty : TypeId) (hpos : 0 < size) :
  Step c w ⟨c.locs ++ [⟨0, size, none⟩], c.prot⟩ w ∧ Inv base ⟨c.locs ++ [⟨0, size, none⟩], c.prot⟩ (H ++ [⟨size, 0, false, [], ty⟩]) w := by
 have old : ∀ {k : Nat} {l : Loc}, (c.locs ++ [⟨0, size, none⟩])[k]? = some l → l.place ≠ none → c.locs[k]? = some l := by
  intro k l h1 h2
  rw [List.getElem?_append] at h1
  split at h1
  ·exact h1
  ·rename_i hk
   have : k - c.locs.length = 0 := by
    by_cases h0 : k - c.locs.length = 0
    ·exact h0
    ·rw [List.getElem?_eq_none (by simp; omega)] at h1; cases h1
   rw [this] at h1; simp at h1; subst h1; simp at h2
 have hs : Step c w ⟨c.locs ++ [⟨0, size, none⟩], c.prot⟩ w := by
  refine ⟨fun _ _ _ h => h, fun k l h => ⟨l, (List.getElem?_append_left (List.getElem?_eq_some_iff.1 h).1).trans h, Nat.le_refl _, fun _ => rfl⟩, rfl, rfl, rfl, Nat.le_refl _, fun b hb _ => rfl, fun b hb => ?_, fun _ _ _ h => .inl h⟩
  obtain ⟨k, l, cp, h1, h2⟩ := hb
  exact .inl ⟨k, l, cp, old h1 (by simp [h2]), h2⟩
 refine ⟨hs, hI.base, by simp [hI.len], hI.prot, fun k e l h1 h2 => ?_, fun k k' l l' g cp cp' h1 h2 h3 h4 => hI.inj k k' l l' g cp cp' (old h1 (by simp [h3])) (old h2 (by simp [h4])) h3 h4⟩
 by_cases hk : k < H.length
 ·rw [List.getElem?_append_left hk] at h1
  rw [List.getElem?_append_left (by rw [hI.len]; exact hk)] at h2
  exact (hI.ent k e l h1 h2).keep hs (fun _ _ _ => rfl) (fun _ _ _ _ _ h => h)
 ·have hk0 : k = H.length := by have := (List.getElem?_eq_some_iff.1 h1).1; simp at this; omega
  subst hk0
  rw [List.getElem?_append_right (by omega)] at h1
  rw [List.getElem?_append_right (by rw [hI.len]; omega), hI.len] at h2
  simp at h1 h2
  subst h1; subst h2
  exact ⟨rfl, rfl, hpos, by simp, fun _ => rfl, fun g cap cur ty fr h => by simp at h, fun g cap h => by simp at h⟩
def Promised (c : Ctx) (H : Heap) (w : World) (k : Nat) : Prop :=
 ∀ e l g cap, H[k]? = some e → c.locs[k]? = some l → l.place = some (g, cap) → ∀ o, o < e.elems.length * e.size → c.prot g o = w.cell? ⟨g, o, none⟩
theorem Inv.freeze1 {c : Ctx} {H : Heap} {w : World} (hI : Inv base c H w) (k : Nat) :
  ∃ c', c'.locs = c.locs ∧ Step c w c' w ∧ Inv base c' (freeze1 H k) w ∧ Promised c' H w k := by
 unfold Abs.freeze1
 cases hk : H[k]? with
 | none => exact ⟨c, rfl, .refl _ _, hI, fun e l g cap h => by rw [hk] at h; cases h⟩
 | some e =>
  obtain ⟨l, hl, he⟩ := hI.loc hk
  -- the new promises
  let ok (b o : Nat) : Prop := ∃ cap, l.place = some (b, cap) ∧ o < e.elems.length * e.size
  have hdec : ∀ b o, ok b o ∨ ¬ ok b o := fun b o => Classical.em _
  let pr : Prot := fun b o => open Classical in if ok b o then w.cell? ⟨b, o, none⟩ else c.prot b o
  have hpr1 : ∀ b o, ok b o → pr b o = w.cell? ⟨b, o, none⟩ := fun b o h => if_pos h
  have hpr0 : ∀ b o, ¬ ok b o → pr b o = c.prot b o := fun b o h => if_neg h
  have hle : Prot.le c.prot pr := fun b o v hv => by
   rcases hdec b o with h | h
   ·rw [hpr1 b o h]; exact hI.prot b o v hv
   ·rw [hpr0 b o h]; exact hv
  have hs : Step c w ⟨c.locs, pr⟩ w := ⟨hle, fun _ l h => ⟨l, h, Nat.le_refl _, fun _ => rfl⟩, rfl, rfl, rfl, Nat.le_refl _, fun _ _ _ => rfl, fun _ h => .inl h, fun b o v hv => by
   rcases hdec b o with h | h
   ·obtain ⟨cap, h1, _⟩ := h; exact .inr (.inr ⟨k, l, cap, hl, h1⟩)
   ·have hv' : pr b o = some v := hv
    rw [hpr0 b o h] at hv'; exact .inl hv'⟩
  refine ⟨⟨c.locs, pr⟩, rfl, hs, ⟨fun b o v hv => hle b o v (hI.base b o v hv), by simp [hI.len], fun b o v hv => ?_, fun i ei li h1 h2 => ?_, hI.inj⟩, fun e' l' g cap h1 h2 h3 o ho => ?_⟩
  ·rcases hdec b o with h | h
   ·rw [← hpr1 b o h]; exact hv
   ·exact hI.prot b o v (by rw [← hpr0 b o h]; exact hv)
  ·by_cases hik : k = i
   ·subst hik
    have hk2 : k < H.length := (List.getElem?_eq_some_iff.1 hk).1
    simp [hk2] at h1
    have h2' : c.locs[k]? = some li := h2
    rw [hl] at h2'; cases h2'
    subst h1
    refine ⟨he.ver, he.size, he.pos, he.cells, he.nowhere, he.typed, fun g cap hg => ?_⟩
    obtain ⟨cur, ty, a1, a2, a3, a4, a5, a6⟩ := he.there g cap hg
    refine ⟨cur, ty, a1, a2, a3, a4, fun i x j y p q => let ⟨v, r, s⟩ := a5 i x j y p q; ⟨v, r, s.step hs⟩, fun o v ho => ?_⟩
    rcases hdec g o with h | h
    ·exact ⟨rfl, h.choose_spec.2⟩
    ·have := a6 o v (by rw [← hpr0 g o h]; exact ho)
     exact ⟨rfl, this.2⟩
   ·simp [hik] at h1
    have h2' : c.locs[i]? = some li := h2
    refine (hI.ent i ei li h1 h2').keep hs (fun _ _ _ => rfl) (fun g cap o v hg hv => ?_)
    rcases hdec g o with h | h
    ·obtain ⟨cap', h3, _⟩ := h
     exact absurd (hI.inj k i l li g cap' cap hl h2' h3 hg) hik
    ·rw [← hpr0 g o h]; exact hv
  ·rw [hk] at h1; cases h1
   have h2' : c.locs[k]? = some l' := h2
   rw [hl] at h2'; cases h2'
   exact hpr1 g o ⟨cap, h3, ho⟩
theorem freeze1_get (H : Heap) (k i : Nat) : ∀ e, (freeze1 H k)[i]? = some e → ∃ e0, H[i]? = some e0 ∧ e0.size = e.size ∧ e0.elems = e.elems := by
 intro e h
 unfold freeze1 at h
 cases hk : H[k]? with
 | none => rw [hk] at h; exact ⟨e, h, rfl, rfl⟩
 | some e0 =>
  rw [hk] at h
  by_cases hik : k = i
  ·subst hik
   have hk2 : k < H.length := (List.getElem?_eq_some_iff.1 hk).1
   simp [hk2] at h
   subst h
   exact ⟨e0, hk, rfl, rfl⟩
  ·simp [hik] at h
   exact ⟨e, h, rfl, rfl⟩
theorem freeze1_get' (H : Heap) (k i : Nat) : ∀ e0, H[i]? = some e0 → ∃ e, (freeze1 H k)[i]? = some e ∧ e.size = e0.size ∧ e.elems = e0.elems := by
 intro e0 h
 unfold freeze1
 cases hk : H[k]? with
 | none => exact ⟨e0, h, rfl, rfl⟩
 | some e1 =>
  by_cases hik : k = i
  ·subst hik
   have hk2 : k < H.length := (List.getElem?_eq_some_iff.1 hk).1
   rw [hk] at h; cases h
   exact ⟨⟨e0.size, e0.ver, true, e0.elems, e0.ty⟩, by simp [hk2], rfl, rfl⟩
  ·exact ⟨e0, by simp [hik, h], rfl, rfl⟩
theorem Promised.step {c c' : Ctx} {H H' : Heap} {w : World} {k : Nat} (h : Promised c H w k) (hl : c'.locs = c.locs) (hs : Prot.le c.prot c'.prot)
  (hH : ∀ e, H'[k]? = some e → ∃ e0, H[k]? = some e0 ∧ e0.size = e.size ∧ e0.elems = e.elems) (hcell : ∀ e l g cap, H[k]? = some e → c.locs[k]? = some l → l.place = some (g, cap) → ∀ o, o < e.elems.length * e.size → ∃ v, w.cell? ⟨g, o, none⟩ = some v) : Promised c' H' w k := by
 intro e l g cap h1 h2 h3 o ho
 obtain ⟨e0, a1, a2, a3⟩ := hH e h1
 rw [hl] at h2
 rw [← a3, ← a2] at ho
 have := h e0 l g cap a1 h2 h3 o ho
 obtain ⟨v, hv⟩ := hcell e0 l g cap a1 h2 h3 o ho
 rw [hv] at this ⊢
 exact hs _ _ _ this
theorem Inv.cell_at {c : Ctx} {H : Heap} {w : World} (hI : Inv base c H w) {k : Nat} {e : Ent} {l : Loc} {g cap : Nat} (hH : H[k]? = some e) (hL : c.locs[k]? = some l) (hg : l.place = some (g, cap)) (o : Nat)
  (ho : o < e.elems.length * e.size) : ∃ v, w.cell? ⟨g, o, none⟩ = some v := by
 obtain ⟨cur, ty, a1, a2, a3, a4, a5, a6⟩ := (hI.ent k e l hH hL).there g cap hg
 rw [cell_of_row w g o cur ty (0, 0) a1]
 have : o < cur.size := by rw [a2]; exact Nat.lt_of_lt_of_le ho (Nat.mul_le_mul_right _ a4)
 exact ⟨cur[o], by simp [this]⟩
theorem Inv.freezeL {c : Ctx} {H : Heap} {w : World} (hI : Inv base c H w) (ks : List Nat) :
  ∃ c', c'.locs = c.locs ∧ Step c w c' w ∧ Inv base c' (freezeL H ks) w ∧ ∀ k ∈ ks, Promised c' H w k := by
 induction ks generalizing c H with
 | nil => exact ⟨c, rfl, .refl _ _, hI, fun k h => by simp at h⟩
 | cons k ks ih =>
  obtain ⟨c1, e1, s1, i1, p1⟩ := hI.freeze1 k
  obtain ⟨c2, e2, s2, i2, p2⟩ := ih i1
  refine ⟨c2, e2.trans e1, s1.trans s2, i2, fun k' hk' => ?_⟩
  rcases List.mem_cons.1 hk' with rfl | hk'
  ·exact p1.step e2 s2.prot (fun e h => ⟨e, h, rfl, rfl⟩) (fun e l g cap a b d o ho => hI.cell_at a (by rw [← e1]; exact b) d o ho)
  ·refine (p2 k' hk').step rfl (fun _ _ _ h => h) (fun e h => freeze1_get' H k k' e h) (fun e l g cap a b d o ho => i1.cell_at a (by rw [← e2]; exact b) d o ho)
end Go.Abs

/-
 ABS, part E: resolving an own array into a list; moving what a callee hands back behind the caller's own arrays; calls.
-/
namespace Go.Abs
variable {P : Program} {base : Prot}
theorem OwnVal.slice {l : Loc} {off len : Nat} {v : Value} (h : OwnVal l off len v) : ∃ a cp, v = .slice a len cp ∧ len ≤ cp ∧ cp ≤ maxLen := by
 unfold OwnVal at h
 cases hp : l.place with
 | none => simp only [hp] at h; obtain ⟨a, rfl, _, rfl, _⟩ := h; exact ⟨a, 0, rfl, Nat.le_refl _, Nat.zero_le _⟩
 | some q => obtain ⟨g, cap⟩ := q; simp only [hp] at h; obtain ⟨a, cp, rfl, h1, h2, _⟩ := h; exact ⟨a, cp, rfl, h1, h2⟩
theorem mapO_some {α β : Type} {f : α → Option β} : ∀ {l : List α} {r : List β}, mapO f l = some r → r.length = l.length ∧ ∀ (j : Nat) x, l[j]? = some x → ∃ y, r[j]? = some y ∧ f x = some y
 | [], r, h => by simp [mapO] at h; subst h; exact ⟨rfl, fun j x h => by simp at h⟩
 | a :: l, r, h => by
  simp only [mapO] at h
  cases hf : f a with
  | none => simp [hf] at h
  | some b =>
   cases hm : mapO f l with
   | none => simp [hf, hm] at h
   | some bs =>
    simp [hf, hm] at h
    subst h
    obtain ⟨h1, h2⟩ := mapO_some hm
    refine ⟨by simp [h1], fun j x hj => ?_⟩
    cases j with
    | zero => simp at hj; subst hj; exact ⟨b, rfl, hf⟩
    | succ j => exact h2 j x (by simpa using hj)
theorem mapO_back {α β : Type} {f : α → Option β} {l : List α} {r : List β} (h : mapO f l = some r) (j : Nat) (y : β) (hj : r[j]? = some y) : ∃ x, l[j]? = some x ∧ f x = some y := by
 obtain ⟨h1, h2⟩ := mapO_some h
 have hl : j < l.length := by rw [← h1]; exact (List.getElem?_eq_some_iff.1 hj).1
 obtain ⟨y', a, b⟩ := h2 j l[j] (by simp [hl])
 rw [hj] at a; cases a
 exact ⟨l[j], by simp [hl], b⟩
theorem Inv.row {c : Ctx} {H : Heap} {w : World} (hI : Inv base c H w) {k : Nat} {e : Ent} {l : Loc} {g cap : Nat} (hH : H[k]? = some e) (hL : c.locs[k]? = some l) (hg : l.place = some (g, cap))
  (i j : Nat) (x y : AVal) (hx : e.elems[i]? = some x) (hy : x.cells[j]? = some y) : ∃ v, w.cell? ⟨g, i * e.size + j, none⟩ = some v ∧ Rep c y v := by
 obtain ⟨cur, ty, a1, a2, a3, a4, a5, a6⟩ := (hI.ent k e l hH hL).there g cap hg
 obtain ⟨v, p, q⟩ := a5 i x j y hx hy
 exact ⟨v, by rw [cell_of_row w g _ cur ty (0, 0) a1]; exact p, q⟩
def ResOk (c : Ctx) (H : Heap) (w : World) (n : Nat) : Prop :=
 ∀ x v p, Rep c x v → resolveV H n x = some p → (∀ k ∈ touchV H n x, Promised c H w k) → PRep c.prot p v
theorem resolve_cell {H : Heap} {n : Nat} {x : AVal} {p : PVal} (h : resolveV H n x = some p) (hc : x.isCell = true) : p.isCell = true := by
 cases x with
 | p y => cases n <;> (simp [resolveV] at h; subst h; simpa [AVal.isCell] using hc)
 | tight es => cases n <;> (simp [resolveV] at h; subst h; rfl)
 | junk => simp [AVal.isCell] at hc
 | anyb => cases n <;> simp [resolveV] at h
 | agg l => simp [AVal.isCell] at hc
 | tup l => simp [AVal.isCell] at hc
 | own k off len ver =>
  cases n with
  | zero => simp [resolveV] at h
  | succ n =>
   simp only [resolveV] at h
   split at h <;> try cases h
   split at h <;> try cases h
   split at h <;> cases h
   rfl
 | optr k ver i off =>
  cases n with
  | zero => simp [resolveV] at h
  | succ n =>
   simp only [resolveV] at h
   split at h <;> try cases h
   split at h <;> try cases h
   split at h <;> try cases h
   split at h <;> cases h
   rfl
 | clo f l =>
  cases n with
  | zero => simp [resolveV] at h
  | succ n => simp only [resolveV] at h; split at h <;> cases h; rfl
theorem resolve_elem {c : Ctx} {H : Heap} {w : World} {n : Nat} (ih : ∀ m, m ≤ n → ResOk c H w m) {x : AVal} {p : PVal} (h : resolveV H n x = some p) (hk : ∀ y ∈ x.cells, y.isCell = true)
  (ht : ∀ k ∈ touchV H n x, Promised c H w k) :
  p.cells.length = x.cells.length ∧ (∀ z ∈ p.cells, z.isCell = true) ∧ ∀ (j : Nat) z, p.cells[j]? = some z → ∃ y, x.cells[j]? = some y ∧ ∀ v, Rep c y v → PRep c.prot z v := by
 by_cases hc : x.isCell = true
 ·have hp := resolve_cell h hc
  rw [AVal.isCell_cells hc, PVal.isCell_cells hp]
  refine ⟨rfl, by simpa using hp, fun j z hz => ?_⟩
  cases j with
  | zero => simp at hz; subst hz; exact ⟨x, rfl, fun v r => ih n (Nat.le_refl _) x v p r h ht⟩
  | succ j => simp at hz
 ·cases x with
  | p y =>
   have : p = y := by cases n <;> (simp [resolveV] at h; exact h.symm)
   subst this
   refine ⟨by simp [AVal.cells], fun z hz => by simpa [AVal.isCell] using hk (.p z) (by simpa [AVal.cells] using hz), fun j z hz => ⟨.p z, by simp [AVal.cells, hz], fun v r => ?_⟩⟩
   cases r; assumption
  | agg l =>
   cases n with
   | zero => simp [resolveV] at h
   | succ n =>
    simp only [resolveV] at h
    cases hm : mapO (resolveV H n) l with
    | none => rw [hm] at h; cases h
    | some ps =>
     rw [hm] at h; cases h
     obtain ⟨h1, h2⟩ := mapO_some hm
     refine ⟨by simp [AVal.cells, PVal.cells, h1], fun z hz => ?_, fun j z hz => ?_⟩
     ·have hz' : z ∈ ps := hz
      obtain ⟨j, hj, rfl⟩ := List.getElem_of_mem hz'
      obtain ⟨y, a, b⟩ := mapO_back hm j ps[j] (by simp)
      exact resolve_cell b (hk y (by simp only [AVal.cells]; exact List.mem_of_getElem? a))
     ·obtain ⟨y, a, b⟩ := mapO_back hm j z (by simpa [PVal.cells] using hz)
      exact ⟨y, by simpa [AVal.cells] using a, fun v r => ih n (Nat.le_succ n) y v z r b (fun k hk => ht k (by simp only [touchV, List.mem_flatMap]; exact ⟨y, List.mem_of_getElem? a, hk⟩))⟩
  | junk => cases n <;> simp [resolveV] at h
  | tup l => have := hk (.tup l) (by simp [AVal.cells]); simp [AVal.isCell] at this
  | _ => simp [AVal.isCell] at hc
theorem resolve_ok {c : Ctx} {H : Heap} {w : World} (hI : Inv base c H w) : ∀ n, ResOk c H w n := by
 intro n
 induction n using Nat.strongRecOn with
 | _ n ih =>
  intro x v p r h ht
  cases r with
  | junk v => cases n <;> simp [resolveV] at h
  | anyb v => cases n <;> simp [resolveV] at h
  | p y v hr => cases n <;> (simp [resolveV] at h; subst h; exact hr)
  | tight es a m hn hr hz => cases n <;> (simp [resolveV] at h; subst h; exact hr)
  | own k off len ver l v hl hv hh ho =>
   cases n with
   | zero => simp [resolveV] at h
   | succ n =>
    simp only [resolveV] at h
    cases hH : H[k]? with
    | none => rw [hH] at h; cases h
    | some e =>
     rw [hH] at h
     simp only at h
     split at h
     case isFalse => cases h
     rename_i hcond
     obtain ⟨hver, hlen⟩ := hcond
     cases hm : mapO (resolveV H n) ((e.elems.drop off).take len) with
     | none => rw [hm] at h; cases h
     | some ps =>
      rw [hm] at h; cases h
      have he := hI.ent k e l hH hl
      have hval : OwnVal l off len v := hh (by rw [he.ver]; exact hver.symm)
      obtain ⟨m1, m2⟩ := mapO_some hm
      have hplen : ps.length = len := by rw [m1]; simp; omega
      have hpk : Promised c H w k := ht k (by simp [touchV])
      have htt : ∀ x ∈ (e.elems.drop off).take len, ∀ k' ∈ touchV H n x, Promised c H w k' := fun x hx k' hk' => ht k' (by
       simp only [touchV, hH, List.mem_cons, List.mem_flatMap]; exact .inr ⟨x, hx, hk'⟩)
      -- one element
      have helem : ∀ (i : Nat) q, ps[i]? = some q → ∃ x, e.elems[off + i]? = some x ∧ x ∈ e.elems ∧ q.cells.length = e.size ∧ (∀ z ∈ q.cells, z.isCell = true) ∧
        ∀ (j : Nat) z, q.cells[j]? = some z → ∃ y, x.cells[j]? = some y ∧ ∀ v, Rep c y v → PRep c.prot z v := by
       intro i q hq
       obtain ⟨x, a, b⟩ := mapO_back hm i q hq
       have hmem := List.mem_of_getElem? a
       have ha : e.elems[off + i]? = some x := by
        rw [List.getElem?_take] at a
        split at a
        ·simpa using a
        ·cases a
       have hxe := List.mem_of_getElem? ha
       have hcx := he.cells x hxe
       obtain ⟨q1, q2, q3⟩ := resolve_elem (fun m hm' => ih m (by omega)) b hcx.2 (htt x hmem)
       exact ⟨x, ha, hxe, by rw [q1]; exact hcx.1, q2, q3⟩
      obtain ⟨a, cp, rfl, hc1, hc2⟩ := hval.slice
      cases hp : l.place with
      | none =>
       have h0 := he.nowhere hp
       have hps : ps = [] := List.eq_nil_of_length_eq_zero (by rw [m1, h0]; simp)
       subst hps
       exact .lst [] a len cp 0 0 0 (fun _ _ => undef) (by simpa using hplen.symm) hc1 hc2 (by simp) (by simp) (by simp) (by simp) (by simp)
      | some q =>
       obtain ⟨g, cap⟩ := q
       simp only [OwnVal, hp] at hval
       obtain ⟨a', cp', he', _, _, hoc, haddr⟩ := hval
       cases he'
       have hget : ∀ i j, i < ps.length → j < e.size → ∃ v, w.cell? ⟨g, off * e.size + i * e.size + j, none⟩ = some v ∧ c.prot g (off * e.size + i * e.size + j) = some v := by
        intro i j hi hj
        have hlt : off * e.size + i * e.size + j < e.elems.length * e.size := by
         rw [← Nat.add_mul]
         have h1 : (off + i + 1) * e.size ≤ e.elems.length * e.size := Nat.mul_le_mul_right _ (by omega)
         rw [Nat.add_mul, Nat.one_mul] at h1
         omega
        obtain ⟨v, hv⟩ := hI.cell_at hH hl hp _ hlt
        exact ⟨v, hv, by rw [hpk e l g cap hH hl hp _ hlt]; exact hv⟩
       refine .lst ps a len cp e.size g (off * e.size) (fun i j => (w.cell? ⟨g, off * e.size + i * e.size + j, none⟩).getD undef) hplen.symm hc1 hc2 ?_ ?_ ?_ ?_ ?_
       ·intro hne
        have hpos : 0 < len := by rw [← hplen]; exact List.length_pos_iff.2 hne
        rw [(haddr (.inl hpos)).1, he.size]
       ·intro q hq
        obtain ⟨i, hi, rfl⟩ := List.getElem_of_mem hq
        obtain ⟨x, _, _, h3, _⟩ := helem i ps[i] (by simp)
        exact h3
       ·intro i j hi hj
        obtain ⟨v, h1, h2⟩ := hget i j hi hj
        simp only [h1, Option.getD_some]
        exact h2
       ·intro i q j z hq hz
        obtain ⟨x, h1, _, h3, _, h5⟩ := helem i q hq
        obtain ⟨y, h6, h7⟩ := h5 j z hz
        obtain ⟨v, h8, h9⟩ := hI.row hH hl hp (off + i) j x y h1 h6
        have : off * e.size + i * e.size + j = (off + i) * e.size + j := by rw [Nat.add_mul]
        simp only [this, h8, Option.getD_some]
        exact h7 v h9
       ·intro q hq
        obtain ⟨i, hi, rfl⟩ := List.getElem_of_mem hq
        obtain ⟨x, _, _, _, h4, _⟩ := helem i ps[i] (by simp)
        exact h4
  | optr k ver i off l v hl hv hh ho =>
   cases n with
   | zero => simp [resolveV] at h
   | succ n =>
    simp only [resolveV] at h
    cases hH : H[k]? with
    | none => rw [hH] at h; cases h
    | some e =>
     rw [hH] at h
     simp only at h
     split at h
     case isFalse => cases h
     rename_i hver
     cases hx : e.elems[i]? with
     | none => rw [hx] at h; cases h
     | some x =>
      rw [hx] at h
      simp only at h
      cases hm : mapO (resolveV H n) (x.cells.drop off) with
      | none => rw [hm] at h; cases h
      | some ps =>
       rw [hm] at h; cases h
       have he := hI.ent k e l hH hl
       obtain ⟨g, cap, hp, rfl⟩ := hh (by rw [he.ver]; exact hver.symm)
       obtain ⟨m1, m2⟩ := mapO_some hm
       have hpk : Promised c H w k := ht k (by simp [touchV])
       have hcx := he.cells x (List.mem_of_getElem? hx)
       have hplen : ps.length = e.size - off := by rw [m1]; simp [hcx.1]
       have hi : i < e.elems.length := (List.getElem?_eq_some_iff.1 hx).1
       have hget : ∀ j, j < ps.length → ∃ v, w.cell? ⟨g, i * e.size + off + j, none⟩ = some v ∧ c.prot g (i * e.size + off + j) = some v := by
        intro j hj
        have hlt : i * e.size + off + j < e.elems.length * e.size := by
         have h1 : (i + 1) * e.size ≤ e.elems.length * e.size := Nat.mul_le_mul_right _ (by omega)
         rw [Nat.add_mul, Nat.one_mul] at h1
         omega
        obtain ⟨v, hv⟩ := hI.cell_at hH hl hp _ hlt
        exact ⟨v, hv, by rw [hpk e l g cap hH hl hp _ hlt]; exact hv⟩
       have hone : ∀ (j : Nat) z, ps[j]? = some z → ∃ y, x.cells[off + j]? = some y ∧ y.isCell = true ∧ resolveV H n y = some z ∧ ∀ k ∈ touchV H n y, Promised c H w k := by
        intro j z hz
        obtain ⟨y, a, b⟩ := mapO_back hm j z hz
        have hm1 := List.mem_of_getElem? a
        exact ⟨y, by simpa using a, hcx.2 y (List.mem_of_mem_drop hm1), b, fun k' hk' => ht k' (by simp only [touchV, hH, hx, List.mem_cons, List.mem_flatMap]; exact .inr ⟨y, hm1, hk'⟩)⟩
       rw [he.size]
       refine .cptr ps g (i * e.size + off) (fun j => (w.cell? ⟨g, i * e.size + off + j, none⟩).getD undef) ?_ ?_ ?_
       ·intro j hj
        obtain ⟨v, h1, h2⟩ := hget j hj
        simp only [h1, Option.getD_some]
        exact h2
       ·intro j z hz
        obtain ⟨y, a, b, d, f⟩ := hone j z hz
        obtain ⟨v, h8, h9⟩ := hI.row hH hl hp i (off + j) x y hx a
        have : i * e.size + off + j = i * e.size + (off + j) := by omega
        simp only [this, h8, Option.getD_some]
        exact ih n (Nat.lt_succ_self n) y v z h9 d f
       ·intro z hz
        obtain ⟨j, hj, rfl⟩ := List.getElem_of_mem hz
        obtain ⟨y, a, b, d, f⟩ := hone j ps[j] (by simp)
        exact resolve_cell d b
  | agg l vs hlen hr hk =>
   cases n with
   | zero => simp [resolveV] at h
   | succ n =>
    simp only [resolveV] at h
    cases hm : mapO (resolveV H n) l with
    | none => rw [hm] at h; cases h
    | some ps =>
     rw [hm] at h; cases h
     obtain ⟨m1, m2⟩ := mapO_some hm
     refine .agg ps vs (by rw [m1]; exact hlen) (fun j z u hz hu => ?_) (fun z hz => ?_)
     ·obtain ⟨y, a, b⟩ := mapO_back hm j z hz
      exact ih n (Nat.lt_succ_self n) y u z (hr j y u a hu) b (fun k' hk' => ht k' (by simp only [touchV, List.mem_flatMap]; exact ⟨y, List.mem_of_getElem? a, hk'⟩))
     ·obtain ⟨j, hj, rfl⟩ := List.getElem_of_mem hz
      obtain ⟨y, a, b⟩ := mapO_back hm j ps[j] (by simp)
      exact resolve_cell b (hk y (List.mem_of_getElem? a))
  | tup l vs hlen hr =>
   cases n with
   | zero => simp [resolveV] at h
   | succ n =>
    simp only [resolveV] at h
    cases hm : mapO (resolveV H n) l with
    | none => rw [hm] at h; cases h
    | some ps =>
     rw [hm] at h; cases h
     obtain ⟨m1, m2⟩ := mapO_some hm
     refine .tup ps vs (by rw [m1]; exact hlen) (fun j z u hz hu => ?_)
     obtain ⟨y, a, b⟩ := mapO_back hm j z hz
     exact ih n (Nat.lt_succ_self n) y u z (hr j y u a hu) b (fun k' hk' => ht k' (by simp only [touchV, List.mem_flatMap]; exact ⟨y, List.mem_of_getElem? a, hk'⟩))
  | clo f l vs hlen hr =>
   cases n with
   | zero => simp [resolveV] at h
   | succ n =>
    simp only [resolveV] at h
    cases hm : mapO (resolveV H n) l with
    | none => rw [hm] at h; cases h
    | some ps =>
     rw [hm] at h; cases h
     obtain ⟨m1, m2⟩ := mapO_some hm
     refine .clo f ps vs (by rw [m1]; exact hlen) (fun j z u hz hu => ?_)
     obtain ⟨y, a, b⟩ := mapO_back hm j z hz
     exact ih n (Nat.lt_succ_self n) y u z (hr j y u a hu) b (fun k' hk' => ht k' (by simp only [touchV, List.mem_flatMap]; exact ⟨y, List.mem_of_getElem? a, hk'⟩))
end Go.Abs
namespace Go.Abs
variable {P : Program} {base : Prot}
theorem shift_cells (n : Nat) (x : AVal) : (shiftV n x).cells = x.cells.map (shiftV n) := by
 cases x with
 | p y => simp only [shiftV, AVal.cells, List.map_map]; exact List.map_congr_left fun z _ => by simp [shiftV]
 | agg l => simp [shiftV, AVal.cells]
 | _ => simp [shiftV, AVal.cells]
theorem shift_isCell (n : Nat) (x : AVal) : (shiftV n x).isCell = x.isCell := by
 cases x <;> simp [shiftV, AVal.isCell]
theorem Rep.shift {pre locs : List Loc} {pr : Prot} {x : AVal} {v : Value} (r : Rep ⟨locs, pr⟩ x v) : Rep ⟨pre ++ locs, pr⟩ (shiftV pre.length x) v := by
 generalize hc : (⟨locs, pr⟩ : Ctx) = c at r
 induction r with
 | junk v => simp only [shiftV]; exact .junk v
 | anyb v => simp only [shiftV]; exact .anyb v
 | p x v hr => subst hc; simp only [shiftV]; exact .p x v hr
 | tight es a n hn hr hz => subst hc; simp only [shiftV]; exact .tight es a n hn hr hz
 | own k off len ver l v hl hv hh ho =>
  subst hc
  simp only [shiftV]
  exact .own _ off len ver l v (by rw [List.getElem?_append_right (by omega)]; simpa using hl) hv hh ho
 | optr k ver i off l v hl hv hh ho =>
  subst hc
  simp only [shiftV]
  exact .optr _ ver i off l v (by rw [List.getElem?_append_right (by omega)]; simpa using hl) hv hh ho
 | agg cells vs hl hr hk ih =>
  simp only [shiftV]
  refine .agg _ vs (by simpa using hl) (fun j x v h1 h2 => ?_) (fun x hx => ?_)
  ·rw [List.getElem?_map] at h1
   obtain ⟨z, hz, rfl⟩ := Option.map_eq_some_iff.1 h1
   exact ih j z v hz h2
  ·obtain ⟨z, hz, rfl⟩ := List.mem_map.1 hx
   rw [shift_isCell]; exact hk z hz
 | tup l vs hl hr ih =>
  simp only [shiftV]
  refine .tup _ vs (by simpa using hl) (fun j x v h1 h2 => ?_)
  rw [List.getElem?_map] at h1
  obtain ⟨z, hz, rfl⟩ := Option.map_eq_some_iff.1 h1
  exact ih j z v hz h2
 | clo f l vs hl hr ih =>
  simp only [shiftV]
  refine .clo f _ vs (by simpa using hl) (fun j x v h1 h2 => ?_)
  rw [List.getElem?_map] at h1
  obtain ⟨z, hz, rfl⟩ := Option.map_eq_some_iff.1 h1
  exact ih j z v hz h2
def SameEl (H H' : Heap) : Prop := ∀ k : Nat, (H[k]?).map (fun e => (e.ver, e.elems)) = (H'[k]?).map (fun e => (e.ver, e.elems))
theorem mapO_congr {α β : Type} {f g : α → Option β} (h : ∀ x, f x = g x) (l : List α) : mapO f l = mapO g l := by rw [funext h]
theorem SameEl.cases {H H' : Heap} (h : SameEl H H') (k : Nat) : (H[k]? = none ∧ H'[k]? = none) ∨ ∃ e e', H[k]? = some e ∧ H'[k]? = some e' ∧ e.ver = e'.ver ∧ e.elems = e'.elems := by
 have := h k
 cases h1 : H[k]? with
 | none => cases h2 : H'[k]? with
  | none => exact .inl ⟨rfl, rfl⟩
  | some e' => rw [h1, h2] at this; cases this
 | some e => cases h2 : H'[k]? with
  | none => rw [h1, h2] at this; cases this
  | some e' => rw [h1, h2] at this; simp at this; exact .inr ⟨e, e', rfl, rfl, this.1, this.2⟩
theorem resolve_same {H H' : Heap} (h : SameEl H H') : ∀ (n : Nat) (x : AVal), resolveV H n x = resolveV H' n x
 | 0, x => by cases x <;> simp [resolveV]
 | n + 1, x => by
  have ih : ∀ l, mapO (resolveV H n) l = mapO (resolveV H' n) l := mapO_congr (resolve_same h n)
  cases x with
  | own k off len ver =>
   simp only [resolveV]
   rcases h.cases k with ⟨h1, h2⟩ | ⟨e, e', h1, h2, h3, h4⟩
   ·rw [h1, h2]
   ·simp only [h1, h2, h3, h4, ih]
  | optr k ver i off =>
   simp only [resolveV]
   rcases h.cases k with ⟨h1, h2⟩ | ⟨e, e', h1, h2, h3, h4⟩
   ·rw [h1, h2]
   ·simp only [h1, h2, h3, h4, ih]
  | _ => simp [resolveV, ih]
theorem touch_same {H H' : Heap} (h : SameEl H H') : ∀ (n : Nat) (x : AVal), touchV H n x = touchV H' n x
 | 0, x => by cases x <;> simp [touchV]
 | n + 1, x => by
  have ih : touchV H n = touchV H' n := funext (touch_same h n)
  cases x with
  | own k off len ver =>
   simp only [touchV]
   rcases h.cases k with ⟨h1, h2⟩ | ⟨e, e', h1, h2, h3, h4⟩
   ·rw [h1, h2]
   ·simp only [h1, h2, h4, ih]
  | optr k ver i off =>
   simp only [touchV]
   rcases h.cases k with ⟨h1, h2⟩ | ⟨e, e', h1, h2, h3, h4⟩
   ·rw [h1, h2]
   ·simp only [h1, h2, h4, ih]
  | _ => simp [touchV, ih]
theorem same_freeze1 (H : Heap) (k : Nat) : SameEl H (freeze1 H k) := by
 intro i
 unfold freeze1
 cases hk : H[k]? with
 | none => rfl
 | some e =>
  by_cases hik : k = i
  ·subst hik
   have hk2 : k < H.length := (List.getElem?_eq_some_iff.1 hk).1
   rw [hk, List.getElem?_set]
   simp [hk2]
  ·simp [hik]
theorem same_freezeL : ∀ (ks : List Nat) (H : Heap), SameEl H (freezeL H ks)
 | [], _, _ => rfl
 | k :: ks, H, i => (same_freeze1 H k i).trans (same_freezeL ks (freeze1 H k) i)
theorem size_freeze1 (H : Heap) (k : Nat) : (freeze1 H k).length = H.length := by
 unfold freeze1; split <;> simp
theorem size_freezeL : ∀ (ks : List Nat) (H : Heap), (freezeL H ks).length = H.length
 | [], _ => rfl
 | k :: ks, H => (size_freezeL ks (freeze1 H k)).trans (size_freeze1 H k)
theorem freezeL_get : ∀ (ks : List Nat) (H : Heap) (i : Nat) (e : Ent), (freezeL H ks)[i]? = some e → ∃ e0, H[i]? = some e0 ∧ e0.size = e.size ∧ e0.elems = e.elems
 | [], _, _, e, h => ⟨e, h, rfl, rfl⟩
 | k :: ks, H, i, e, h => by
  obtain ⟨e1, h1, h2, h3⟩ := freezeL_get ks (freeze1 H k) i e h
  obtain ⟨e0, g1, g2, g3⟩ := freeze1_get H k i e1 h1
  exact ⟨e0, g1, g2.trans h2, g3.trans h3⟩
def ExtOk (P : Program) (f : FuncId) (ps : List PVal) (x : PVal) : Prop :=
 ∃ fn e, P.funcs[f]? = some fn ∧ (fn.name == "runtime.NumGoroutine") = false ∧ fn.body.isNone = true ∧ (Extern.findNext fn).isNone = true ∧ Extern.find fn = some e ∧
  ∀ (pr : Prot) (w : World) (vs : List Value), vs.length = ps.length → (∀ (j : Nat) y v, ps[j]? = some y → vs[j]? = some v → PRep pr y v) → ∃ v, (e vs.toArray).run P w = .ok v w ∧ PRep pr x v
structure TabOk (P : Program) (base : Prot) (T : Tab) : Prop where
 fn : ∀ f args r E, T.fn f args = some (r, E) → goodFn P f = true ∧ Spec P base f (args.map .p) [] r E
 mu : ∀ f args H r H', T.mu f args H = some (r, H') → goodFn P f = true ∧ Spec P base f args H r H'
 ex : ∀ f ps x, T.ex f ps = some x → ExtOk P f ps x
theorem PRep.toRep {c : Ctx} {ps : List PVal} {vs : List Value} (hl : vs.length = ps.length) (h : ∀ (j : Nat) x v, ps[j]? = some x → vs[j]? = some v → PRep c.prot x v) : RepL c (ps.map .p) vs := by
 refine ⟨by simpa using hl, fun j x v h1 h2 => ?_⟩
 rw [List.getElem?_map] at h1
 obtain ⟨z, hz, rfl⟩ := Option.map_eq_some_iff.1 h1
 exact .p z v (h j z v hz h2)
theorem Inv.join {c : Ctx} {H E : Heap} {w w' : World} {c0' : Ctx} (hI : Inv base c H w) (hs : Step ⟨[], c.prot⟩ w c0' w') (hI' : Inv base c0' E w') :
  Step c w ⟨c.locs ++ c0'.locs, c0'.prot⟩ w' ∧ Inv base ⟨c.locs ++ c0'.locs, c0'.prot⟩ (H ++ E.map (shiftE H.length)) w' := by
 have noloc : ∀ b, ¬ Loced ⟨[], c.prot⟩ b := fun b ⟨k, l, cap, h, _⟩ => by simp at h
 have hnewb : ∀ b, Loced c0' b → w.heap.size ≤ b := fun b h => (hs.newloc b h).resolve_left (noloc b)
 have hsplit : ∀ {k : Nat} {l : Loc}, (c.locs ++ c0'.locs)[k]? = some l → (k < c.locs.length ∧ c.locs[k]? = some l) ∨ (c.locs.length ≤ k ∧ c0'.locs[k - c.locs.length]? = some l) := by
  intro k l h
  by_cases hk : k < c.locs.length
  ·rw [List.getElem?_append_left hk] at h; exact .inl ⟨hk, h⟩
  ·rw [List.getElem?_append_right (by omega)] at h; exact .inr ⟨by omega, h⟩
 have hstep : Step c w ⟨c.locs ++ c0'.locs, c0'.prot⟩ w' := by
  refine ⟨hs.prot, fun k l h => ⟨l, (List.getElem?_append_left (List.getElem?_eq_some_iff.1 h).1).trans h, Nat.le_refl _, fun _ => rfl⟩, hs.os, hs.tape, hs.output, hs.size,
   fun b hb _ => hs.blk b hb (noloc b), fun b hb => ?_, fun b o v hv => ?_⟩
  ·obtain ⟨k, l, cap, h1, h2⟩ := hb
   rcases hsplit h1 with ⟨_, h3⟩ | ⟨_, h3⟩
   ·exact .inl ⟨k, l, cap, h3, h2⟩
   ·exact .inr (hnewb b ⟨_, l, cap, h3, h2⟩)
  ·rcases hs.newprot b o v hv with h | h | h
   ·exact .inl h
   ·exact .inr (.inl h)
   ·exact absurd h (noloc b)
 refine ⟨hstep, hI'.base, by simp [hI.len, hI'.len], hI'.prot, fun k e l h1 h2 => ?_, fun k k' l l' g cp cp' h1 h2 h3 h4 => ?_⟩
 ·rcases hsplit h2 with ⟨hk, h3⟩ | ⟨hk, h3⟩
  ·rw [List.getElem?_append_left (by rw [← hI.len]; exact hk)] at h1
   refine (hI.ent k e l h1 h3).keep hstep (fun g cap hl => hs.blk g (hI.loced_lt ⟨k, l, cap, h3, hl⟩) (noloc g)) (fun g cap o v hl hv => ?_)
   rcases hs.newprot g o v hv with h | h | h
   ·exact h
   ·have := hI.loced_lt ⟨k, l, cap, h3, hl⟩; omega
   ·exact absurd h (noloc g)
  ·rw [hI.len] at hk h3
   rw [List.getElem?_append_right hk, List.getElem?_map] at h1
   obtain ⟨e0, he0, rfl⟩ := Option.map_eq_some_iff.1 h1
   have ok := hI'.ent _ e0 l he0 h3
   refine ⟨ok.ver, ok.size, ok.pos, fun x hx => ?_, fun h => by simp [shiftE, ok.nowhere h], fun g cap cur ty fr hl hh => ok.typed g cap cur ty fr hl hh, fun g cap hl => ?_⟩
   ·simp only [shiftE, List.mem_map] at hx
    obtain ⟨z, hz, rfl⟩ := hx
    have := ok.cells z hz
    rw [shift_cells]
    refine ⟨by simpa [shiftE] using this.1, fun y hy => ?_⟩
    obtain ⟨u, hu, rfl⟩ := List.mem_map.1 hy
    rw [shift_isCell]; exact this.2 u hu
   ·obtain ⟨cur, ty, a1, a2, a3, a4, a5, a6⟩ := ok.there g cap hl
    refine ⟨cur, ty, a1, a2, a3, by simpa [shiftE] using a4, fun i x j y p q => ?_, fun o v ho => by simpa [shiftE] using a6 o v ho⟩
    simp only [shiftE, List.getElem?_map] at p
    obtain ⟨z, hz, rfl⟩ := Option.map_eq_some_iff.1 p
    rw [shift_cells, List.getElem?_map] at q
    obtain ⟨u, hu, rfl⟩ := Option.map_eq_some_iff.1 q
    obtain ⟨v, r, s⟩ := a5 i z j u hz hu
    refine ⟨v, r, ?_⟩
    rw [← hI.len]
    exact s.shift
 ·rcases hsplit h1 with ⟨a1, a2⟩ | ⟨a1, a2⟩ <;> rcases hsplit h2 with ⟨b1, b2⟩ | ⟨b1, b2⟩
  ·exact hI.inj k k' l l' g cp cp' a2 b2 h3 h4
  ·have := hI.loced_lt ⟨k, l, cp, a2, h3⟩
   have := hnewb g ⟨_, l', cp', b2, h4⟩
   omega
  ·have := hI.loced_lt ⟨k', l', cp', b2, h4⟩
   have := hnewb g ⟨_, l, cp, a2, h3⟩
   omega
  ·have := hI'.inj _ _ l l' g cp cp' a2 b2 h3 h4
   omega
theorem callF_ok {T : Tab} (hT : TabOk P base T) {c : Ctx} {H : Heap} {w : World} (hI : Inv base c H w) {f : FuncId} {args : List AVal} {vs : List Value} (hr : RepL c args vs) {x : AVal} {H' : Heap}
  (h : callF T f args H = some (x, H')) :
  goodFn P f = true ∧ Calls P f vs.toArray w fun e w' => ∃ v c', e = .returned v ∧ Step c w c' w' ∧ Inv base c' H' w' ∧ Rep c' x v := by
 unfold callF at h
 cases hm : T.mu f args H with
 | some r =>
  rw [hm] at h
  cases h
  obtain ⟨h1, h2⟩ := hT.mu f args H x H' hm
  exact ⟨h1, h2 c w vs hI hr⟩
 | none =>
  rw [hm] at h
  cases hps : mapO (resolveV H fuel) args with
  | none => rw [hps] at h; cases h
  | some ps =>
   rw [hps] at h
   simp only at h
   cases hf : T.fn f ps with
   | none => rw [hf] at h; cases h
   | some rE =>
    obtain ⟨r, E⟩ := rE
    rw [hf] at h
    simp only [Option.some.injEq, Prod.mk.injEq] at h
    obtain ⟨rfl, rfl⟩ := h
    obtain ⟨h1, h2⟩ := hT.fn f ps r E hf
    refine ⟨h1, ?_⟩
    obtain ⟨c1, e1, s1, i1, p1⟩ := hI.freezeL (args.flatMap (touchV H fuel))
    have same := same_freezeL (args.flatMap (touchV H fuel)) H
    have hpr : ∀ (j : Nat) p v, ps[j]? = some p → vs[j]? = some v → PRep c1.prot p v := by
     intro j p v hj hv
     obtain ⟨y, a, b⟩ := mapO_back hps j p hj
     rw [resolve_same same] at b
     refine resolve_ok i1 fuel y v p ((hr.2 j y v a hv).step s1) b (fun k hk => ?_)
     rw [← touch_same same] at hk
     exact (p1 k (List.mem_flatMap.2 ⟨y, List.mem_of_getElem? a, hk⟩)).step rfl (fun _ _ _ h => h) (fun e he => freezeL_get _ H k e he)
      (fun e l g cap a b d o ho => hI.cell_at a (by rw [← e1]; exact b) d o ho)
    have hlen : vs.length = ps.length := by rw [(mapO_some hps).1]; exact hr.1
    have i0 : Inv base ⟨[], c1.prot⟩ [] w := ⟨i1.base, rfl, i1.prot, fun k e l h => by simp at h, fun k k' l l' g cp cp' h => by simp at h⟩
    refine (h2 ⟨[], c1.prot⟩ w vs i0 (PRep.toRep hlen hpr)).mono fun e w' ⟨v, c0', he, hs, hi, hrep⟩ => ?_
    obtain ⟨js, ji⟩ := Inv.join i1 hs hi
    rw [size_freezeL] at ji
    refine ⟨v, _, he, s1.trans js, ji, ?_⟩
    have : c1.locs.length = H.length := by rw [e1, hI.len]
    rw [← this]
    exact Rep.shift (pre := c1.locs) (locs := c0'.locs) (pr := c0'.prot) hrep
end Go.Abs

/-
 ABS, part F: each operation of the model does what the evaluation says of its lowered form.
-/
namespace Go.Abs
variable {P : Program} {base : Prot}
def Sim (n : Nat) (c : Ctx) (fr : AFr) (a : Act) : Prop := a.tmps.size = n ∧ ∀ i, i < n → Rep c (fr i) (a.tmps.getD i undef)
def GlobOk (base : Prot) (gl : Nat → AVal) : Prop := ∀ g (c : Ctx), Prot.le base c.prot → Rep c (gl g) (.pointer (some ⟨g, 0, none⟩))
theorem constCell_ok (c : Ctx) (v : Value) : Rep c (constCell v) v := by
 cases v with
 | bool b => exact .p _ _ (.bool _)
 | int k n => exact .p _ _ (.int _ _)
 | float k b => exact .p _ _ (.flt _ _)
 | complex k a b => exact .p _ _ (.cpx _ _ _)
 | string s =>
  simp only [constCell]
  split
  ·rename_i h
   refine .p _ _ ?_
   have := PRep.str (pr := c.prot) s.data.toList (by unfold maxLen; simpa using Nat.le_trans h (by omega))
   simpa using this
  ·exact .junk _
 | pointer a => cases a <;> simp only [constCell, Option.isNone] <;> first | exact .p _ _ .nilp | exact .junk _
 | slice a n m =>
  simp only [constCell]
  split
  ·rename_i h
   obtain ⟨h1, rfl, rfl⟩ := h
   exact .tight [] a 0 rfl (.lst [] a 0 0 0 0 0 (fun _ _ => undef) rfl (Nat.le_refl _) (Nat.zero_le _) (by simp) (by simp) (by simp) (by simp) (by simp)) (fun _ => by simpa using h1)
  ·exact .junk _
 | func fn first caps =>
  cases fn <;> simp only [constCell] <;> try exact .junk _
  split
  ·rename_i h
   obtain ⟨h1, h2⟩ := h
   have e1 : first = #[] := Array.eq_empty_of_size_eq_zero h1
   have e2 : caps = #[] := Array.eq_empty_of_size_eq_zero h2
   subst e1; subst e2
   exact .p _ _ (.clo _ [] [] rfl (by simp))
  ·exact .junk _
 | nilFunc => exact .p _ _ .nilf
 | nilIface => exact .p _ _ .nili
 | _ => exact .junk _
theorem constA_ok (c : Ctx) (v : Value) : Rep c (constA v) v := by
 cases v with
 | agg cs =>
  simp only [constA]
  split
  ·rename_i h
   have := rep_mkAgg (c := c) (l := cs.toList.map constCell) (vs := cs.toList) ⟨⟨by simp, fun j x v h1 h2 => by
    rw [List.getElem?_map, h2] at h1; simp at h1; subst h1; exact constCell_ok c v⟩, fun x hx => by
    rw [List.all_eq_true] at h; exact h x hx⟩
   simpa using this
  ·exact .junk _
 | _ => simp only [constA]; exact constCell_ok c _
section
variable {gl : Nat → AVal} {n : Nat}
theorem opd_ok (hg : GlobOk base gl) {c : Ctx} {fr : AFr} {a : Act} (hs : Sim n c fr a) (hb : Prot.le base c.prot) (o : Operand) : Rep c (opd fr (lowOpd gl n o)) (a.eval o) := by
 cases o with
 | tmp t =>
  simp only [lowOpd, Act.eval]
  split
  ·rename_i h; exact hs.2 t h
  ·exact .junk _
 | const v => exact constA_ok c v
 | global g => exact hg g c hb
 | func f => exact .p _ _ (.clo f [] [] rfl (by simp))
theorem opds_ok (hg : GlobOk base gl) {c : Ctx} {fr : AFr} {a : Act} (hs : Sim n c fr a) (hb : Prot.le base c.prot) (l : List Operand) : RepL c ((l.map (lowOpd gl n)).map (opd fr)) (l.map a.eval) := by
 refine ⟨by simp, fun j x v h1 h2 => ?_⟩
 simp only [List.getElem?_map] at h1 h2
 cases hj : l[j]? with
 | none => simp [hj] at h1
 | some o => simp [hj] at h1 h2; subst h1; subst h2; exact opd_ok hg hs hb o
end
def Done (P : Program) (base : Prot) (s : Sem Value) (c : Ctx) (w : World) (x : AVal) (H' : Heap) : Prop :=
 ∃ v w' c', s.run P w = .ok v w' ∧ Step c w c' w' ∧ Inv base c' H' w' ∧ Rep c' x v
theorem Done.still {s : Sem Value} {c : Ctx} {w : World} {x : AVal} {H : Heap} (hI : Inv base c H w) {v : Value} (h : s.run P w = .ok v w) (r : Rep c x v) : Done P base s c w x H :=
 ⟨v, w, c, h, .refl _ _, hI, r⟩
theorem addr_lit (g o j : Nat) : (⟨g, o, none⟩ : Addr).add j = ⟨g, o + j, none⟩ := Addr.add_lit g o j
theorem load_ok' {T : Tab} {c : Ctx} {H : Heap} {w : World} (hI : Inv base c H w) {fr : AFr} {t : TypeId} {d : TypeDesc} (ht : P.underlying t = some d) {la : LOpd} {va : Value} (ra : Rep c (opd fr la) va) {x : AVal} {H' : Heap}
  (h : evalOp T (.load (sizeT P t) (isAggT P t) la) fr H = some (x, H')) : ∃ v, (Instr.loadAt t va).run P w = .ok v w ∧ H' = H ∧ Rep c x v := by
 simp only [evalOp] at h
 split at h
 · -- own array
  rename_i k ver i off hla
  rw [hla] at ra
  cases hk : H[k]? with
  | none => rw [hk] at h; cases h
  | some e =>
   rw [hk] at h
   simp only at h
   split at h
   case isFalse => cases h
   rename_i hver
   cases hi : e.elems[i]? with
   | none => rw [hi] at h; cases h
   | some el =>
    rw [hi] at h
    simp only at h
    split at h
    case isFalse => cases h
    rename_i hlen
    cases hf : fromCells (isAggT P t) ((el.cells.drop off).take (sizeT P t)) with
    | none => rw [hf] at h; cases h
    | some y =>
     rw [hf] at h; cases h
     cases ra with
     | optr _ _ _ _ l v hl hv hh ho =>
      have he := hI.ent k e l hk hl
      obtain ⟨g, cap, hp, rfl⟩ := hh (by rw [he.ver]; exact hver.symm)
      have hcx := he.cells el (List.mem_of_getElem? hi)
      -- the concrete cells
      have hrow : ∀ j, j < sizeT P t → ∃ v y, w.cell? ⟨g, i * l.size + off + j, none⟩ = some v ∧ el.cells[off + j]? = some y ∧ Rep c y v := by
       intro j hj
       have hj' : off + j < el.cells.length := by omega
       obtain ⟨v, h1, h2⟩ := hI.row hk hl hp i (off + j) el el.cells[off + j] hi (by simp [hj'])
       exact ⟨v, el.cells[off + j], by rw [he.size]; rw [show i * e.size + off + j = i * e.size + (off + j) from by omega]; exact h1, by simp [hj'], h2⟩
      let vs := (List.range (sizeT P t)).map fun j => (w.cell? ⟨g, i * l.size + off + j, none⟩).getD undef
      have hvs : ∀ (j : Nat) v, vs[j]? = some v → j < sizeT P t ∧ w.cell? ⟨g, i * l.size + off + j, none⟩ = some v := by
       intro j v hj
       simp only [vs, List.getElem?_map] at hj
       have hjl : j < sizeT P t := by
        by_cases hc : j < sizeT P t
        ·exact hc
        ·rw [List.getElem?_eq_none (by simp; omega)] at hj; cases hj
       rw [List.getElem?_range hjl] at hj
       obtain ⟨v', y, h1, _⟩ := hrow j hjl
       simp [h1] at hj
       exact ⟨hjl, by rw [h1, hj]⟩
      have hrc : RepC c ((el.cells.drop off).take (sizeT P t)) vs := by
       refine ⟨⟨by simp [vs]; omega, fun j y v h1 h2 => ?_⟩, fun y hy => hcx.2 y (List.mem_of_mem_drop (List.mem_of_mem_take hy))⟩
       obtain ⟨hj, h3⟩ := hvs j v h2
       obtain ⟨v', y', h4, h5, h6⟩ := hrow j hj
       rw [h3] at h4; cases h4
       rw [List.getElem?_take] at h1
       simp only [hj, if_true, List.getElem?_drop] at h1
       rw [h5] at h1; cases h1
       exact h6
      obtain ⟨v, hv1, hv2⟩ := rep_fromCells hrc hf
      refine ⟨v, ?_, rfl, hv1⟩
      simp only [Instr.loadAt, Instr.sureAddr, Sem.run_bind, Sem.run_pure, Result.andThen_ok]
      exact run_load_cells ht w _ vs (by simp [vs]) (fun j v hj => by rw [addr_lit]; exact (hvs j v hj).2) v hv2
 · -- an immutable row
  rename_i cells hla
  rw [hla] at ra
  split at h
  case isFalse => cases h
  rename_i hlen
  cases hf : fromCells (isAggT P t) ((cells.take (sizeT P t)).map .p) with
  | none => rw [hf] at h; cases h
  | some y =>
   rw [hf] at h; cases h
   cases ra with
   | p _ _ hp =>
    cases hp with
    | cptr _ blk off vals hp hr hk =>
     let vs := (List.range (sizeT P t)).map vals
     have hvs : ∀ (j : Nat) v, vs[j]? = some v → j < sizeT P t ∧ v = vals j := by
      intro j v hj
      simp only [vs, List.getElem?_map] at hj
      have hjl : j < sizeT P t := by
       by_cases hc : j < sizeT P t
       ·exact hc
       ·rw [List.getElem?_eq_none (by simp; omega)] at hj; cases hj
      rw [List.getElem?_range hjl] at hj
      simp at hj
      exact ⟨hjl, hj.symm⟩
     have hrc : RepC c ((cells.take (sizeT P t)).map .p) vs := by
      refine ⟨⟨by simp [vs]; omega, fun j y v h1 h2 => ?_⟩, fun y hy => ?_⟩
      ·obtain ⟨hj, rfl⟩ := hvs j v h2
       rw [List.getElem?_map, List.getElem?_take] at h1
       simp only [hj, if_true] at h1
       obtain ⟨z, hz, rfl⟩ := Option.map_eq_some_iff.1 h1
       exact .p _ _ (hr j z hz)
      ·obtain ⟨z, hz, rfl⟩ := List.mem_map.1 hy
       exact hk z (List.mem_of_mem_take hz)
     obtain ⟨v, hv1, hv2⟩ := rep_fromCells hrc hf
     refine ⟨v, ?_, rfl, hv1⟩
     simp only [Instr.loadAt, Instr.sureAddr, Sem.run_bind, Sem.run_pure, Result.andThen_ok]
     exact run_load_cells ht w _ vs (by simp [vs]) (fun j v hj => by
      obtain ⟨hj', rfl⟩ := hvs j v hj
      rw [addr_lit]; exact hI.prot _ _ _ (hp j (by omega))) v hv2
 ·cases h
theorem load_ok {T : Tab} {c : Ctx} {H : Heap} {w : World} (hI : Inv base c H w) {fr : AFr} {t : TypeId} {d : TypeDesc} (ht : P.underlying t = some d) {la : LOpd} {va : Value} (ra : Rep c (opd fr la) va) {x : AVal} {H' : Heap}
  (h : evalOp T (.load (sizeT P t) (isAggT P t) la) fr H = some (x, H')) : Done P base (Instr.loadAt t va) c w x H' := by
 obtain ⟨v, h1, rfl, h2⟩ := load_ok' hI ht ra h
 exact .still hI h1 h2
end Go.Abs
namespace Go.Abs
variable {P : Program} {base : Prot}
theorem all_isCell {l : List AVal} (h : l.all AVal.isCell = true) : ∀ y ∈ l, y.isCell = true := fun y hy => List.all_eq_true.1 h y hy
theorem cells_list (v : Value) : v.cells.toList.toArray = v.cells := by simp
theorem newv_ok {c : Ctx} {H : Heap} {w w1 : World} (hI : Inv base c H w) (hg : Grew w w1) (hsz : w1.heap.size = w.heap.size) {x : AVal} {v : Value} (r : Rep c x v) {size : Nat} (hlen : x.cells.length = size) (hpos : 0 < size) (hk : x.cells.all AVal.isCell = true) (ty : TypeId) :
  ∃ c', Step c w c' (w1.alloc (.cells v.cells ty)) ∧ Inv base c' (H ++ [⟨size, 0, false, [x], ty⟩]) (w1.alloc (.cells v.cells ty)) ∧ Rep c' (.optr H.length 0 0 0) (.pointer (some ⟨w.heap.size, 0, none⟩)) := by
 have hc := r.cells (all_isCell hk)
 have hsize : v.cells.size = size := by have := hc.1.1; simp at this; omega
 obtain ⟨hs, hi⟩ := hI.alloc hg hsz size 1 [x] v.cells ty hpos (by rw [hsize]; omega) (by unfold maxLen; omega) (by simp) (fun y hy => by simp at hy; subst hy; exact ⟨hlen, all_isCell hk⟩) (fun i y j z hi hj => by
  cases i with
  | zero =>
   simp at hi; subst hi
   have hjl : j < v.cells.toList.length := by rw [hc.1.1]; exact (List.getElem?_eq_some_iff.1 hj).1
   refine ⟨v.cells.toList[j], by simp at hjl; simp [hjl], ?_⟩
   exact hc.1.2 j z _ hj (by simp)
  | succ i => simp at hi)
 refine ⟨_, hs, hi, ?_⟩
 exact .optr _ 0 0 0 ⟨0, size, some (w.heap.size, 1)⟩ _ (by simp [hI.len]) (Nat.le_refl _) (fun _ => ⟨w.heap.size, 1, rfl, by simp⟩) ⟨_, rfl⟩
theorem box_ok {T : Tab} {c : Ctx} {H : Heap} {w : World} (hI : Inv base c H w) {fr : AFr} {t : TypeId} {size : Nat} {lx : LOpd} {vx : Value} (rx : Rep c (opd fr lx) vx) {x : AVal} {H' : Heap}
  (h : evalOp T (.newv size t lx) fr H = some (x, H')) : Done P base (Instr.box t vx) c w x H' := by
 simp only [evalOp] at h
 split at h
 case isFalse => cases h
 rename_i hc
 obtain ⟨h1, h2, h3⟩ := hc
 cases h
 obtain ⟨c', a, b, d⟩ := newv_ok hI (.refl w) rfl rx h1 h2 h3 t
 exact ⟨_, _, c', by simp [Instr.box, newVar, newRow, newObj]; rfl, a, b, d⟩
theorem alloc_ok {T : Tab} {c : Ctx} {H : Heap} {w : World} (hI : Inv base c H w) {fr : AFr} {t : TypeId} {size : Nat} {x : AVal} {H' : Heap}
  (h : evalOp T (.newv size t (.cst (zeroT P t))) fr H = some (x, H')) : Done P base (Instr.alloc t true (.tuple #[])) c w x H' := by
 unfold zeroT at h
 cases hi : P.info? t with
 | none => simp [hi, evalOp, opd, AVal.cells, AVal.isCell] at h
 | some i =>
  cases hz : i.zero with
  | none => simp [hi, hz, evalOp, opd, AVal.cells, AVal.isCell] at h
  | some z =>
   simp only [hi, hz] at h
   obtain ⟨v, w', c', a, b⟩ := box_ok (P := P) (t := t) (vx := z) (lx := .cst (constA z)) hI (constA_ok c z) h
   refine ⟨v, w', c', ?_, b⟩
   rw [← a]
   simp [Instr.alloc, Instr.box, zeroValue, typeInfo, hi, hz, Sem.run_bind]
theorem fadr_ok {T : Tab} {c : Ctx} {H : Heap} {w : World} (hI : Inv base c H w) {fr : AFr} {t : TypeId} {fields : Array Field} {i : Nat} {f : Field} (ht : P.underlying t = some (.struct fields)) (hf : fields[i]? = some f)
  (hz : sizeT P f.type ≠ 0) {lx : LOpd} {vx : Value} (rx : Rep c (opd fr lx) vx) {x : AVal} {H' : Heap} (h : evalOp T (.fadr f.offset lx) fr H = some (x, H')) : Done P base (Instr.fieldAt t vx i) c w x H' := by
 obtain ⟨d, hd⟩ := sizeT_some hz
 have run : ∀ g o, (Instr.fieldAt t (.pointer (some ⟨g, o, none⟩)) i).run P w = .ok (.pointer (some ⟨g, o + f.offset, none⟩)) w := fun g o => by
  simp [Instr.fieldAt, Instr.sureAddr, run_underlying ht, hf, fieldPlace, run_sizeT hd, hz, addr_lit]
 simp only [evalOp] at h
 split at h
 ·rename_i k ver j o hx
  rw [hx] at rx
  cases hk : H[k]? with
  | none => rw [hk] at h; cases h
  | some e =>
   rw [hk] at h
   simp only at h
   split at h
   case isFalse => cases h
   rename_i hver
   cases h
   cases rx with
   | optr _ _ _ _ l v hl hv hh ho =>
    obtain ⟨g, cap, hp, rfl⟩ := hh (by rw [(hI.ent k e l hk hl).ver]; exact hver.symm)
    exact .still hI (run _ _) (.optr _ _ _ _ l _ hl hv (fun _ => ⟨g, cap, hp, by rw [Nat.add_assoc]⟩) ⟨_, rfl⟩)
 ·rename_i cells hx
  split at h
  case isFalse => cases h
  rename_i hlen
  cases h
  rw [hx] at rx
  cases rx with
  | p _ _ hp =>
   cases hp with
   | cptr _ blk off vals hp hr hk =>
    exact .still hI (run _ _) (.p _ _ (.cptr _ blk (off + f.offset) (fun j => vals (f.offset + j)) (fun j hj => by rw [Nat.add_assoc]; exact hp _ (by simp at hj; omega)) (fun j z hz => hr _ z (by simpa using hz)) (fun z hz => hk z (List.mem_of_mem_drop hz))))
 ·cases h
theorem own_val {c : Ctx} {H : Heap} {w : World} (hI : Inv base c H w) {k off len ver : Nat} {v : Value} (r : Rep c (.own k off len ver) v) {e : Ent} (hk : H[k]? = some e) (hver : e.ver = ver) :
  ∃ l, c.locs[k]? = some l ∧ EntOk c w e l ∧ OwnVal l off len v := by
 cases r with
 | own _ _ _ _ l v hl hv hh ho =>
  have he := hI.ent k e l hk hl
  exact ⟨l, hl, he, hh (by rw [he.ver]; exact hver.symm)⟩
theorem intOf_some {c : Ctx} {x : AVal} {v : Value} {n : Int} (r : Rep c x v) (h : intOf? x = some n) : ∃ k, v = .int k n := by
 cases x with
 | p y =>
  cases y <;> simp [intOf?] at h
  subst h
  cases r with
  | p _ _ hp => cases hp; exact ⟨_, rfl⟩
 | _ => simp [intOf?] at h
theorem iadr_ok {T : Tab} {c : Ctx} {H : Heap} {w : World} (hI : Inv base c H w) {fr : AFr} {t el : TypeId} (ht : P.underlying t = some (.slice el)) (hel : sizeT P el ≠ 0)
  {lx li : LOpd} {vx vi : Value} (rx : Rep c (opd fr lx) vx) (ri : Rep c (opd fr li) vi) {x : AVal} {H' : Heap} (h : evalOp T (.iadr (sizeT P el) lx li) fr H = some (x, H')) :
  Done P base (Instr.indexAt t vx vi) c w x H' := by
 obtain ⟨d, hd⟩ := sizeT_some hel
 simp only [evalOp] at h
 cases hi : intOf? (opd fr li) with
 | none => rw [hi] at h; cases h
 | some i =>
  rw [hi] at h
  obtain ⟨ki, rfl⟩ := intOf_some ri hi
  have run : ∀ (a : Addr) (len cap : Nat), 0 ≤ i → i < len → (Instr.indexAt t (.slice (some a) len cap) (.int ki i)).run P w = .ok (.pointer (some (a.add (i.toNat * sizeT P el)))) w := fun a len cap h0 h1 => by
   simp [Instr.indexAt, asIntOf, run_underlying ht, h0, h1, run_sizeT hd]
  have lstc : ∀ (es : List PVal) (v : Value), PRep c.prot (.lst es) v → (if 0 ≤ i then match es[i.toNat]? with
     | some e => if e.cells.length = sizeT P el then some (AVal.p (.cptr e.cells), H) else none
     | none => none
    else none) = some (x, H') → Done P base (Instr.indexAt t v (.int ki i)) c w x H' := by
   intro es v hp h
   split at h
   case isFalse => cases h
   rename_i h0
   cases he : es[i.toNat]? with
   | none => rw [he] at h; cases h
   | some e =>
    rw [he] at h
    simp only at h
    split at h
    case isFalse => cases h
    rename_i hsz
    cases h
    cases hp with
    | lst _ a len cap size blk off vals hl hc hm ha hs hp hr hk =>
     have hin : i.toNat < es.length := (List.getElem?_eq_some_iff.1 he).1
     have hne : es ≠ [] := by intro h; subst h; simp at hin
     have hse := hs e (List.mem_of_getElem? he)
     rw [ha hne]
     refine .still hI (run _ _ _ h0 (by omega)) ?_
     rw [addr_lit]
     refine .p _ _ (.cptr _ blk _ (fun j => vals i.toNat j) (fun j hj => ?_) (fun j z hz => hr _ e j z he hz) (hk e (List.mem_of_getElem? he)))
     have := hp i.toNat j hin (by omega)
     rw [← hsz, hse]; exact this
  simp only at h
  split at h
  ·rename_i k off len ver hx
   rw [hx] at rx
   cases hk : H[k]? with
   | none => rw [hk] at h; cases h
   | some e =>
    rw [hk] at h
    simp only at h
    split at h
    case isFalse => cases h
    rename_i hc
    obtain ⟨h0, h1, hver, hsz⟩ := hc
    cases h
    obtain ⟨l, hl, he, hv⟩ := own_val hI rx hk hver
    unfold OwnVal at hv
    cases hp : l.place with
    | none => simp only [hp] at hv; obtain ⟨a, _, _, h2, _⟩ := hv; omega
    | some q =>
     obtain ⟨g, cap⟩ := q
     simp only [hp] at hv
     obtain ⟨a, cp, rfl, _, _, _, h3⟩ := hv
     obtain ⟨rfl, rfl⟩ := h3 (.inl (by omega))
     refine .still hI (run _ _ _ h0 h1) ?_
     rw [addr_lit]
     exact .optr _ _ _ _ l _ hl (by rw [he.ver, hver]; exact Nat.le_refl _) (fun _ => ⟨g, cap, hp, by rw [Nat.add_mul, he.size, hsz, Nat.add_zero]⟩) ⟨_, rfl⟩
  ·rename_i es hx
   rw [hx] at rx
   cases rx with
   | p _ _ hp => exact lstc es _ hp h
  ·rename_i es hx
   rw [hx] at rx
   cases rx with
   | tight _ a n hn hp hz => exact lstc es _ hp h
  ·cases h
end Go.Abs

/-
 ABS, part G: stores, new slices, slice expressions, indexes, fields.
-/
namespace Go.Abs
variable {P : Program} {base : Prot}
theorem splice_get {α : Type} (cur vs : List α) (o : Nat) (h : o + vs.length ≤ cur.length) (i : Nat) :
  (cur.take o ++ vs ++ cur.drop (o + vs.length))[i]? = if o ≤ i ∧ i < o + vs.length then vs[i - o]? else cur[i]? := by
 by_cases h1 : i < o
 ·rw [List.append_assoc, List.getElem?_append_left (by simp; omega), List.getElem?_take]
  rw [if_pos h1, if_neg (by omega)]
 ·by_cases h2 : i < o + vs.length
  ·rw [List.append_assoc, List.getElem?_append_right (by simp; omega), List.getElem?_append_left (by simp; omega), if_pos (by omega)]
   congr 1
   simp; omega
  ·rw [List.getElem?_append_right (by simp; omega), List.getElem?_drop, if_neg (by omega)]
   congr 1
   simp; omega
theorem splice_length {α : Type} (cur vs : List α) (o : Nat) (h : o + vs.length ≤ cur.length) : (cur.take o ++ vs ++ cur.drop (o + vs.length)).length = cur.length := by
 simp; omega
theorem notAgg_cells {x : AVal} (h : x.isAgg = false) : x.cells = [x] := by
 cases x with
 | p y => cases y <;> simp_all [AVal.isAgg, AVal.cells, PVal.cells]
 | agg l => simp [AVal.isAgg] at h
 | _ => rfl
theorem putCells_some {el x el' : AVal} {off n size : Nat} (h : putCells el x off n = some el') (hs : el.cells.length = size) (hk : ∀ y ∈ el.cells, y.isCell = true) :
  x.cells.length = n ∧ off + n ≤ size ∧ el'.cells = el.cells.take off ++ x.cells ++ el.cells.drop (off + n) ∧ (∀ y ∈ el'.cells, y.isCell = true) ∧ (∀ y ∈ x.cells, y.isCell = true) := by
 unfold putCells at h
 split at h
 case isFalse => cases h
 rename_i hc
 obtain ⟨hc1, hc2⟩ := hc
 have hx := all_isCell hc2
 split at h
 ·split at h
  case isFalse => cases h
  rename_i hle
  cases h
  rw [mkAgg_cells]
  refine ⟨hc1, by omega, rfl, fun y hy => ?_, hx⟩
  rcases List.mem_append.1 hy with h1 | h1
  ·rcases List.mem_append.1 h1 with h2 | h2
   ·exact hk y (List.mem_of_mem_take h2)
   ·exact hx y h2
  ·exact hk y (List.mem_of_mem_drop h1)
 ·rename_i hna
  split at h
  case isFalse => cases h
  rename_i h2
  obtain ⟨rfl, rfl, h3⟩ := h2
  cases h
  have : el.cells = [el] := notAgg_cells (by simpa using hna)
  rw [this] at hs ⊢
  simp at hs
  refine ⟨hc1, by omega, by simp, hx, hx⟩
theorem Below.of_setRow {w : World} {g : Nat} {cs : Array Value} : (w.setRow g cs).heap.size = w.heap.size := by simp [World.setRow]
theorem Inv.setCells {c : Ctx} {H : Heap} {w : World} (hI : Inv base c H w) {k : Nat} {e : Ent} {l : Loc} {g cap : Nat} (hk : H[k]? = some e) (hl : c.locs[k]? = some l) (hp : l.place = some (g, cap)) (hfz : e.froz = false)
  {cur : Array Value} {ty : TypeId} (hh : w.heap[g]? = some (.cells cur ty (0, 0))) (hcs : cur.size = cap * e.size) (hcm : cap ≤ maxLen) (cur' : Array Value) (hsz : cur'.size = cur.size) (elems' : List AVal) (hlen : elems'.length = e.elems.length)
  (hcells : ∀ x ∈ elems', x.cells.length = e.size ∧ ∀ y ∈ x.cells, y.isCell = true)
  (hrep : ∀ (i : Nat) x (j : Nat) y, elems'[i]? = some x → x.cells[j]? = some y → ∃ v, cur'[i * e.size + j]? = some v ∧ Rep c y v) :
  ∃ c', Step c w c' (w.setRow g cur') ∧ Inv base c' (H.set k ⟨e.size, e.ver, e.froz, elems', e.ty⟩) (w.setRow g cur') := by
 have he := hI.ent k e l hk hl
 obtain ⟨cur0, ty0, a1, a2, a3, a4, a5, a6⟩ := he.there g cap hp
 have hprot : ∀ b o v, c.prot b o = some v → b ≠ g := fun b o v hv hb => by
  subst hb
  have := (a6 o v hv).1
  rw [hfz] at this; cases this
 have hok : EntOk c (w.setRow g cur') ⟨e.size, e.ver, e.froz, elems', e.ty⟩ l := by
  refine ⟨he.ver, he.size, he.pos, hcells, fun h => ?_, fun g' cap' cur2 ty2 fr2 h hh2 => ?_, fun g' cap' h => ?_⟩
  ·rw [h] at hp; cases hp
  ·rw [hp] at h; cases h
   rw [setRow_heap w g cur cur' ty (0, 0) hh] at hh2
   cases hh2
   exact he.typed g cap cur ty (0, 0) hp hh
  ·rw [hp] at h; cases h
   exact ⟨cur', ty, setRow_heap w g cur cur' ty (0, 0) hh, by rw [hsz]; exact hcs, hcm, by simp only [hlen]; exact a4, hrep, fun o v hv => absurd rfl (hprot g o v hv)⟩
 obtain ⟨hs, hi⟩ := hI.replace hl (w' := w.setRow g cur') ⟨e.size, e.ver, e.froz, elems', e.ty⟩ l rfl rfl rfl (by rw [Below.of_setRow]; exact Nat.le_refl _)
  (fun b hb hn => setRow_other w g b cur' (fun h => hn cap (by rw [hp, h]))) (Nat.le_refl _) (fun _ => rfl) (fun g' cap' h => .inl ⟨cap', h⟩)
  (fun b o v hv => by rw [cell_setRow_other w g cur' _ (hprot b o v hv)]; exact hI.prot b o v hv)
  hok
 have : (⟨c.locs.set k l, c.prot⟩ : Ctx) = c := by
  have hkl : k < c.locs.length := (List.getElem?_eq_some_iff.1 hl).1
  have : c.locs.set k l = c.locs := by
   apply List.ext_getElem?
   intro i
   by_cases hik : k = i
   ·subst hik; simp [hkl]; simpa [hkl] using hl.symm
   ·simp [hik]
  rw [this]
 rw [this] at hs hi
 exact ⟨c, hs, hi⟩
theorem store_ok {T : Tab} {c : Ctx} {H : Heap} {w : World} (hI : Inv base c H w) {fr : AFr} {t : TypeId} {d : TypeDesc} (ht : P.underlying t = some d) {la lx : LOpd} {va vx : Value} (ra : Rep c (opd fr la) va) (rx : Rep c (opd fr lx) vx)
  {x : AVal} {H' : Heap} (h : evalOp T (.store (sizeT P t) la lx) fr H = some (x, H')) :
  ∃ w' c', (Instr.storeAt t va vx).run P w = .ok () w' ∧ Step c w c' w' ∧ Inv base c' H' w' ∧ x = .p (.tup []) := by
 simp only [evalOp] at h
 split at h
 case h_2 => cases h
 rename_i k ver i off hla
 rw [hla] at ra
 cases hk : H[k]? with
 | none => rw [hk] at h; cases h
 | some e =>
  rw [hk] at h
  simp only at h
  split at h
  case isFalse => cases h
  rename_i hc
  obtain ⟨hver, hfz⟩ := hc
  cases hi : e.elems[i]? with
  | none => rw [hi] at h; cases h
  | some el =>
   rw [hi] at h
   simp only at h
   cases hput : putCells el (opd fr lx) off (sizeT P t) with
   | none => rw [hput] at h; cases h
   | some el' =>
    rw [hput] at h; cases h
    cases ra with
    | optr _ _ _ _ l v hl hv hh ho =>
     have he := hI.ent k e l hk hl
     obtain ⟨g, cap, hp, rfl⟩ := hh (by rw [he.ver]; exact hver.symm)
     obtain ⟨cur, ty, a1, a2, a3, a4, a5, a6⟩ := he.there g cap hp
     have hcx := he.cells el (List.mem_of_getElem? hi)
     obtain ⟨p1, p2, p3, p4, p5⟩ := putCells_some hput hcx.1 hcx.2
     have hin : i < e.elems.length := (List.getElem?_eq_some_iff.1 hi).1
     have rc := rx.cells p5
     have hvlen : vx.cells.toList.length = sizeT P t := by rw [rc.1.1]; exact p1
     have hbound : i * e.size + off + sizeT P t ≤ cur.size := by
      rw [a2]
      have h1 : (i + 1) * e.size ≤ cap * e.size := Nat.mul_le_mul_right _ (by omega)
      rw [Nat.add_mul, Nat.one_mul] at h1
      omega
     have hrun := run_storeCells_at P g (i * e.size + off) ty vx.cells.toList 0 cur w a1 (by rw [hvlen]; omega) rc.ones
     simp only [Nat.add_zero] at hrun
     have hbl : i * e.size + off + vx.cells.toList.length ≤ cur.toList.length := by rw [hvlen]; simpa using hbound
     obtain ⟨c', hs, hI'⟩ := hI.setCells hk hl hp hfz a1 a2 a3 (cur.toList.take (i * e.size + off) ++ vx.cells.toList ++ cur.toList.drop (i * e.size + off + vx.cells.toList.length)).toArray
      (by rw [List.size_toArray, splice_length _ _ _ hbl]; simp) (e.elems.set i el') (by simp) (fun y hy => by
       rcases List.mem_or_eq_of_mem_set hy with h1 | h1
       ·exact he.cells y h1
       ·subst h1
        refine ⟨?_, p4⟩
        rw [p3]; simp; omega) (fun i' y j z hy hz => by
       rw [List.getElem?_toArray, splice_get _ _ _ hbl, hvlen]
       by_cases hii : i = i'
       ·subst hii
        simp [hin] at hy
        subst hy
        rw [p3, ← p1, splice_get _ _ _ (by rw [p1]; omega)] at hz
        rw [p1] at hz
        by_cases hj : off ≤ j ∧ j < off + sizeT P t
        ·rw [if_pos hj] at hz
         rw [if_pos (by omega)]
         have hjj : j - off < vx.cells.toList.length := by omega
         refine ⟨vx.cells.toList[j - off], ?_, rc.1.2 (j - off) z _ hz (by simp)⟩
         rw [show i * e.size + j - (i * e.size + off) = j - off from by omega]
         simp
        ·rw [if_neg hj] at hz
         rw [if_neg (by omega)]
         obtain ⟨v, q1, q2⟩ := a5 i el j z hi hz
         exact ⟨v, by simpa using q1, q2⟩
       ·simp [hii] at hy
        have hj : j < e.size := by
         have := (he.cells y (List.mem_of_getElem? hy)).1
         rw [← this]; exact (List.getElem?_eq_some_iff.1 hz).1
        rw [if_neg (by
         intro hcon
         rcases Nat.lt_or_gt_of_ne hii with h1 | h1
         ·have h2 : (i + 1) * e.size ≤ i' * e.size := Nat.mul_le_mul_right _ (by omega)
          rw [Nat.add_mul, Nat.one_mul] at h2
          omega
         ·have h2 : (i' + 1) * e.size ≤ i * e.size := Nat.mul_le_mul_right _ (by omega)
          rw [Nat.add_mul, Nat.one_mul] at h2
          omega)]
        obtain ⟨v, q1, q2⟩ := a5 i' y j z hy hz
        exact ⟨v, by simpa using q1, q2⟩)
     refine ⟨_, c', ?_, hs, hI', rfl⟩
     have hvs : vx.cells.size = sizeT P t := by simpa using hvlen
     simp only [Instr.storeAt, Instr.sureAddr, Sem.run_bind, Sem.run_pure, Result.andThen_ok, storeVar, run_sizeT ht, hvs]
     simp only [ne_eq, not_true, if_false]
     rw [he.size]
     exact hrun
end Go.Abs

/-
 ABS, part H: new slices, struct literals, slice expressions, indexes, fields.
-/
namespace Go.Abs
variable {P : Program} {base : Prot}
theorem zeroT_ok {e : TypeId} (h : (zeroT P e).cells.all AVal.isCell = true) : ∃ i z, P.info? e = some i ∧ i.zero = some z ∧ zeroT P e = constA z := by
 unfold zeroT at *
 cases hi : P.info? e with
 | none => simp [hi, AVal.cells, AVal.isCell] at h
 | some i =>
  cases hz : i.zero with
  | none => simp [hi, hz, AVal.cells, AVal.isCell] at h
  | some z => exact ⟨i, z, rfl, hz, by simp [hz]⟩
theorem made_get (z : Array Value) (size n i j : Nat) (hz : z.size = size) (hj : j < size) (hi : i < n) : (madeCells z (n * size))[i * size + j]? = some z[j] := by
 have hlt : i * size + j < n * size := by
  have h1 : (i + 1) * size ≤ n * size := Nat.mul_le_mul_right _ (by omega)
  rw [Nat.add_mul, Nat.one_mul] at h1
  omega
 unfold madeCells
 rw [Array.getElem?_map, Array.getElem?_range, if_pos hlt]
 have : (i * size + j) % z.size = j := by rw [hz, Nat.mul_comm, Nat.mul_add_mod, Nat.mod_eq_of_lt hj]
 simp only [this, Option.map_some, Option.some.injEq]
 rw [getElem!_pos z j (by omega)]
theorem mksl_ok {T : Tab} {c : Ctx} {H : Heap} {w : World} (hI : Inv base c H w) {fr : AFr} {t e : TypeId} (ht : P.underlying t = some (.slice e)) {ll lc : LOpd} {vl vc : Value} (rl : Rep c (opd fr ll) vl) (rc : Rep c (opd fr lc) vc)
  {x : AVal} {H' : Heap} (h : evalOp T (.mksl (sizeT P e) (bytesT P e) e (zeroT P e) ll lc) fr H = some (x, H')) : Done P base (Instr.makeSlice t vl vc) c w x H' := by
 simp only [evalOp] at h
 split at h
 case h_2 => cases h
 rename_i l cc hl hc
 split at h
 case isFalse => cases h
 rename_i hcond
 obtain ⟨h0, hlc, hb, hm, hzl, hpos, hzk⟩ := hcond
 cases h
 obtain ⟨kl, rfl⟩ := intOf_some rl hl
 obtain ⟨kc, rfl⟩ := intOf_some rc hc
 obtain ⟨i, z, hi, hz, hze⟩ := zeroT_ok hzk
 have hu := sizeT_some (P := P) (t := e) (by omega)
 obtain ⟨d, hd⟩ := hu
 have hsz : sizeT P e = i.size := by simp [sizeT, hd, hi]
 have hbt : bytesT P e = i.bytes := by simp [bytesT, hi]
 rw [hze] at hzl hzk
 have rz := (constA_ok c z).cells (all_isCell hzk)
 have hzs : z.cells.size = sizeT P e := by have := rz.1.1; simp at this; omega
 have hcm : cc ≤ 9223372036854775807 := by unfold maxLen at hm; omega
 have hrun := run_make (P := P) w t e i z ht hi hz kl kc l cc h0 hlc (by
  rw [← hbt]
  have : (bytesT P e : Int) * cc = cc * bytesT P e := Int.mul_comm _ _
  rw [this]; omega) hcm
 rw [← hsz] at hrun
 have hln : l.toNat ≤ cc.toNat := by omega
 obtain ⟨hs, hI'⟩ := hI.alloc (.refl w) rfl (sizeT P e) cc.toNat (List.replicate l.toNat (zeroT P e)) (madeCells z.cells (cc.toNat * sizeT P e)) e hpos (size_madeCells _ _) (by omega) (by simpa using hln)
  (fun y hy => by
   rw [(List.mem_replicate.1 hy).2, hze]; exact ⟨hzl, all_isCell hzk⟩)
  (fun i' y j u hy hu => by
   rw [List.getElem?_replicate] at hy
   split at hy
   case isFalse => cases hy
   rename_i hi'
   cases hy
   rw [hze] at hu
   have hj : j < sizeT P e := by rw [← hzl]; exact (List.getElem?_eq_some_iff.1 hu).1
   refine ⟨z.cells[j], made_get _ _ _ _ _ hzs hj (by omega), ?_⟩
   exact rz.1.2 j u _ hu (by simp [hzs, hj]))
 refine ⟨_, _, _, hrun, hs, hI', ?_⟩
 refine .own _ _ _ _ ⟨0, sizeT P e, some (w.heap.size, cc.toNat)⟩ _ (by simp [hI.len]) (Nat.le_refl _) (fun _ => ?_) ⟨_, _, _, rfl⟩
 exact ⟨_, _, rfl, hln, by omega, by omega, fun _ => by simp⟩
theorem zip_ok : ∀ (l : List Value) (s off : Nat) (vs : List Value), off + s + l.length ≤ vs.length →
  (l.zipIdx s).foldl (fun (cs : Array Value) (p : Value × Nat) => cs.setIfInBounds (off + p.2) p.1) vs.toArray = (vs.take (off + s) ++ l ++ vs.drop (off + s + l.length)).toArray
 | [], s, off, vs, _ => by simp
 | a :: l, s, off, vs, h => by
  simp only [List.length_cons] at h
  simp only [List.zipIdx_cons, List.foldl_cons, List.setIfInBounds_toArray]
  rw [zip_ok l (s + 1) off (vs.set (off + s) a) (by simp; omega)]
  congr 1
  apply List.ext_getElem?
  intro i
  rw [splice_get _ _ _ (by simp; omega)]
  have := splice_get vs (a :: l) (off + s) (by simp; omega) i
  rw [this]
  simp only [List.length_cons]
  by_cases h1 : i = off + s
  ·subst h1
   rw [if_neg (by omega), if_pos (by omega), Nat.sub_self, List.getElem?_cons_zero, List.getElem?_set_self (by omega)]
  ·by_cases h2 : off + (s + 1) ≤ i ∧ i < off + (s + 1) + l.length
   ·rw [if_pos h2, if_pos (by omega)]
    rw [show i - (off + s) = (i - (off + (s + 1))) + 1 from by omega, List.getElem?_cons_succ]
   ·rw [if_neg h2, if_neg (by omega), List.getElem?_set_ne (by omega)]
theorem fill_ok {c : Ctx} {opv : LOpd → AVal} {place : Nat → Option (Nat × Nat)} : ∀ (parts : List (Nat × Nat × LOpd)) (mparts : List (Nat × Value)) (cells : List AVal) (vs : List Value) (r : List AVal), RepC c cells vs → mparts.length = parts.length →
  (∀ (j : Nat) p q, parts[j]? = some p → mparts[j]? = some q → (place q.1 = some (p.1, p.2.1) ∨ (p.2.2 = .cst .junk)) ∧ Rep c (opv p.2.2) q.2) → (∀ x, opv (.cst x) = x) →
  fillA opv cells parts = some r → ∃ vs', Instr.fill place vs.toArray mparts = some vs'.toArray ∧ RepC c r vs'
 | [], [], cells, vs, r, h, _, _, _, he => by simp [fillA] at he; subst he; exact ⟨vs, by simp [Instr.fill], h⟩
 | [], q :: qs, _, _, _, _, hl, _, _, _ => by simp at hl
 | p :: ps, [], _, _, _, _, hl, _, _, _ => by simp at hl
 | (off, size, x) :: ps, (i, v) :: qs, cells, vs, r, h, hl, hp, hc, he => by
  simp only [fillA] at he
  split at he
  case isFalse => cases he
  rename_i hcond
  obtain ⟨h1, h2, h3⟩ := hcond
  obtain ⟨hpl, hr⟩ := hp 0 (off, size, x) (i, v) rfl rfl
  have hplace : place i = some (off, size) := by
   rcases hpl with h4 | h4
   ·exact h4
   ·simp only at h4; rw [h4, hc] at h3; simp [AVal.cells, AVal.isCell] at h3
  have rc := Rep.cells hr (all_isCell h3)
  have hvl : v.cells.size = size := by have := rc.1.1; simp at this; omega
  have hlen := h.1.1
  have hfit : off + v.cells.toList.length ≤ vs.length := by simp; omega
  have hzip : v.cells.zipIdx.foldl (fun cs (c, j) => cs.setIfInBounds (off + j) c) vs.toArray = (vs.take off ++ v.cells.toList ++ vs.drop (off + v.cells.toList.length)).toArray := by
   have := zip_ok v.cells.toList 0 off vs (by simpa using hfit)
   rw [Nat.add_zero] at this
   rw [← this, ← Array.foldl_toList]
   simp
  have rc' : RepC c (cells.take off ++ (opv x).cells ++ cells.drop (off + size)) (vs.take off ++ v.cells.toList ++ vs.drop (off + size)) := ((h.take off).append rc).append (h.drop _)
  obtain ⟨vs', g1, g2⟩ := fill_ok ps qs _ _ r rc' (by simpa using hl) (fun j p q a b => hp (j + 1) p q a b) hc he
  refine ⟨vs', ?_, g2⟩
  simp only [Instr.fill, hplace]
  rw [if_neg (by simp; omega), hzip, ← g1]
  simp [hvl]
theorem places_ok {fields : Array Field} (h : fields.toList.all (fun f => (P.underlying f.type).isSome) = true) :
  fields.toList.mapM (fun f => (P.info? f.type).map fun i => (f.offset, i.size)) = some (fields.toList.map fun f => (f.offset, sizeT P f.type)) := by
 generalize fields.toList = l at h
 induction l with
 | nil => rfl
 | cons f l ih =>
  simp only [List.all_cons, Bool.and_eq_true] at h
  obtain ⟨d, hd⟩ := Option.isSome_iff_exists.1 h.1
  obtain ⟨i, hi⟩ := isSome_info hd
  simp only [List.mapM_cons, List.map_cons]
  rw [ih h.2]
  simp [hi, sizeT, hd]
theorem build_ok {T : Tab} {c : Ctx} {H : Heap} {w : World} (hI : Inv base c H w) {fr : AFr} {t : TypeId} {place : Nat → Option (Nat × Nat)} {parts : List (Nat × Nat × LOpd)} {mparts : List (Nat × Value)} (hl : mparts.length = parts.length)
  (hp : ∀ (j : Nat) p q, parts[j]? = some p → mparts[j]? = some q → (place q.1 = some (p.1, p.2.1) ∨ (p.2.2 = .cst .junk)) ∧ Rep c (opd fr p.2.2) q.2)
  (hpl : ∀ i z, P.info? t = some i → i.zero = some z → ∀ r, Instr.fill place z.cells mparts = some r → P.built t mparts = some r)
  {x : AVal} {H' : Heap} (h : evalOp T (.build (zeroT P t) parts) fr H = some (x, H')) : Done P base (Instr.build t mparts.toArray) c w x H' := by
 simp only [evalOp] at h
 split at h
 case isFalse => cases h
 rename_i hk
 obtain ⟨i, z, hi, hz, hze⟩ := zeroT_ok hk
 rw [hze] at h hk
 cases hf : fillA (opd fr) (constA z).cells parts with
 | none => rw [hf] at h; cases h
 | some cs =>
  rw [hf] at h; cases h
  have rz := (constA_ok c z).cells (all_isCell hk)
  obtain ⟨vs', g1, g2⟩ := fill_ok (place := place) parts mparts _ _ cs rz hl hp (fun _ => rfl) hf
  rw [cells_list] at g1
  exact .still hI (run_build (P := P) w t _ _ (by simpa using hpl i z hi hz _ g1)) (rep_mkAgg g2)
theorem fillS_ok {c : Ctx} {opv : LOpd → AVal} {size : Nat} : ∀ (parts : List (Nat × LOpd)) (mparts : List (Nat × Value)) (es : List AVal) (vs : List Value) (r : List AVal),
  vs.length = es.length * size → (∀ x ∈ es, x.cells.length = size ∧ ∀ y ∈ x.cells, y.isCell = true) →
  (∀ (i : Nat) x (j : Nat) y, es[i]? = some x → x.cells[j]? = some y → ∃ v, vs[i * size + j]? = some v ∧ Rep c y v) → mparts.length = parts.length →
  (∀ (j : Nat) p q, parts[j]? = some p → mparts[j]? = some q → q.1 = p.1 ∧ Rep c (opv p.2) q.2) →
  fillS opv size es parts = some r → ∃ vs' : List Value, Instr.fill (fun i => some (i * size, size)) vs.toArray mparts = some vs'.toArray ∧ vs'.length = r.length * size ∧ r.length = es.length ∧
   (∀ x ∈ r, x.cells.length = size ∧ ∀ y ∈ x.cells, y.isCell = true) ∧ (∀ (i : Nat) x (j : Nat) y, r[i]? = some x → x.cells[j]? = some y → ∃ v, vs'[i * size + j]? = some v ∧ Rep c y v)
 | [], [], es, vs, r, hl, hk, hr, _, _, he => by simp [fillS] at he; subst he; exact ⟨vs, by simp [Instr.fill], hl, rfl, hk, hr⟩
 | [], q :: qs, _, _, _, _, _, _, hl, _, _ => by simp at hl
 | p :: ps, [], _, _, _, _, _, _, hl, _, _ => by simp at hl
 | (i, x) :: ps, (i', v) :: qs, es, vs, r, hl, hk, hr, hlen, hp, he => by
  simp only [fillS] at he
  split at he
  case isFalse => cases he
  rename_i hcond
  obtain ⟨h1, h2, h3⟩ := hcond
  obtain ⟨rfl, rx⟩ := hp 0 (i, x) (i', v) rfl rfl
  simp only at rx h2
  have rc := Rep.cells rx (all_isCell h3)
  have hvl : v.cells.toList.length = size := by rw [rc.1.1]; exact h1
  have hb : i' * size + size ≤ vs.length := by
   rw [hl]
   have h4 : (i' + 1) * size ≤ es.length * size := Nat.mul_le_mul_right _ (by omega)
   rw [Nat.add_mul, Nat.one_mul] at h4
   exact h4
  have hfit : i' * size + v.cells.toList.length ≤ vs.length := by omega
  have hzip := zip_ok v.cells.toList 0 (i' * size) vs (by simpa using hfit)
  rw [Nat.add_zero] at hzip
  have hzip' : v.cells.zipIdx.foldl (fun (cs : Array Value) (p : Value × Nat) => cs.setIfInBounds (i' * size + p.2) p.1) vs.toArray = (vs.take (i' * size) ++ v.cells.toList ++ vs.drop (i' * size + v.cells.toList.length)).toArray := by
   rw [← hzip, ← Array.foldl_toList]
   simp
  obtain ⟨vs', g1, g2, g3, g4, g5⟩ := fillS_ok ps qs (es.set i' (opv x)) (vs.take (i' * size) ++ v.cells.toList ++ vs.drop (i' * size + v.cells.toList.length)) r
   (by rw [splice_length _ _ _ hfit]; simpa using hl)
   (fun y hy => by
    rcases List.mem_or_eq_of_mem_set hy with h4 | h4
    ·exact hk y h4
    ·subst h4; exact ⟨h1, all_isCell h3⟩)
   (fun k y j z hy hz => by
    rw [splice_get _ _ _ hfit, hvl]
    by_cases hik : i' = k
    ·subst hik
     simp [h2] at hy
     subst hy
     have hj : j < size := by rw [← h1]; exact (List.getElem?_eq_some_iff.1 hz).1
     rw [if_pos (by omega), show i' * size + j - i' * size = j from by omega]
     refine ⟨v.cells.toList[j]'(by omega), by simp, rc.1.2 j z _ hz (by simp)⟩
    ·simp [hik] at hy
     have hj : j < size := by rw [← (hk y (List.mem_of_getElem? hy)).1]; exact (List.getElem?_eq_some_iff.1 hz).1
     rw [if_neg (by
      intro hcon
      rcases Nat.lt_or_gt_of_ne hik with h4 | h4
      ·have h5 : (i' + 1) * size ≤ k * size := Nat.mul_le_mul_right _ (by omega)
       rw [Nat.add_mul, Nat.one_mul] at h5
       omega
      ·have h5 : (k + 1) * size ≤ i' * size := Nat.mul_le_mul_right _ (by omega)
       rw [Nat.add_mul, Nat.one_mul] at h5
       omega)]
     exact hr k y j z hy hz)
   (by simpa using hlen) (fun j p q a b => hp (j + 1) p q a b) he
  refine ⟨vs', ?_, g2, by simpa using g3, g4, g5⟩
  simp only [Instr.fill]
  rw [if_neg (by simp at hvl ⊢; omega)]
  rw [← g1]
  exact congrArg (fun z => Instr.fill _ z qs) hzip'
theorem buildSl_ok {T : Tab} {c : Ctx} {H : Heap} {w : World} (hI : Inv base c H w) {fr : AFr} {t e : TypeId} (ht : P.underlying t = some (.slice e)) {len : Nat} {parts : List (Nat × LOpd)} {mparts : List (Nat × Value)} (hl : mparts.length = parts.length)
  (hp : ∀ (j : Nat) p q, parts[j]? = some p → mparts[j]? = some q → q.1 = p.1 ∧ Rep c (opd fr p.2) q.2)
  {x : AVal} {H' : Heap} (h : evalOp T (.buildSl (sizeT P e) e (zeroT P e) len parts) fr H = some (x, H')) : Done P base (Instr.buildSlice t len mparts.toArray) c w x H' := by
 simp only [evalOp] at h
 split at h
 case isFalse => cases h
 rename_i hcond
 obtain ⟨hzl, hpos, hsmall, hzk⟩ := hcond
 cases hf : fillS (opd fr) (sizeT P e) (List.replicate len (zeroT P e)) parts with
 | none => rw [hf] at h; cases h
 | some es =>
  rw [hf] at h; cases h
  obtain ⟨i, z, hi, hz, hze⟩ := zeroT_ok hzk
  obtain ⟨d, hd⟩ := sizeT_some (P := P) (t := e) (by omega)
  have hsz : sizeT P e = i.size := by simp [sizeT, hd, hi]
  rw [hze] at hzl hzk hf
  have rz := (constA_ok c z).cells (all_isCell hzk)
  have hzs : z.cells.size = sizeT P e := by have := rz.1.1; simp at this; omega
  have zrep : ∀ (i' : Nat) y (j : Nat) u, (List.replicate len (constA z))[i']? = some y → y.cells[j]? = some u → ∃ v, (madeCells z.cells (len * sizeT P e)).toList[i' * sizeT P e + j]? = some v ∧ Rep c u v := by
   intro i' y j u hy hu
   rw [List.getElem?_replicate] at hy
   split at hy
   case isFalse => cases hy
   rename_i hi'
   cases hy
   have hj : j < sizeT P e := by rw [← hzl]; exact (List.getElem?_eq_some_iff.1 hu).1
   refine ⟨z.cells[j], ?_, rz.1.2 j u _ hu (by simp [hzs, hj])⟩
   have := made_get _ _ _ _ _ hzs hj hi'
   simpa using this
  obtain ⟨vs', g1, g2, g3, g4, g5⟩ := fillS_ok parts mparts _ (madeCells z.cells (len * sizeT P e)).toList es (by simp [size_madeCells]) (fun y hy => by
   rw [(List.mem_replicate.1 hy).2]; exact ⟨hzl, all_isCell hzk⟩) zrep hl hp hf
  simp only [List.length_replicate] at g3
  obtain ⟨hs, hI'⟩ := hI.alloc (.refl w) rfl (sizeT P e) len es vs'.toArray e hpos (by simp [g2, g3]) (by unfold maxLen; have := Nat.le_mul_of_pos_right len hpos; omega) (by omega) g4 (fun i x j y a b => by
   obtain ⟨v, p, q⟩ := g5 i x j y a b
   exact ⟨v, by simpa using p, q⟩)
  have hrun : (Instr.buildSlice t len mparts.toArray).run P w = .ok (.slice (some ⟨w.heap.size, 0, none⟩) len len) (w.alloc (.cells vs'.toArray e)) := by
   have g1' : Instr.fill (fun i => some (i * sizeT P e, sizeT P e)) (madeCells z.cells (len * sizeT P e)) mparts = some vs'.toArray := by simpa using g1
   rw [hsz] at g1'
   by_cases h0 : len * i.size = 0
   ·have hlen0 : len = 0 := by
     rcases Nat.mul_eq_zero.1 h0 with h | h
     ·exact h
     ·omega
    subst hlen0
    have e0 : madeCells z.cells (0 * i.size) = #[] := by apply Array.eq_empty_of_size_eq_zero; rw [size_madeCells]; simp
    rw [e0] at g1'
    simp [Instr.buildSlice, run_underlying ht, sizeOf, typeInfo, hi, newRow, newObj]
    rw [show Array.map (fun _ => (default : Value)) (Array.range 0) = #[] from Array.eq_empty_of_size_eq_zero (by simp), g1']
    rfl
   ·exact run_buildSlice w t e len mparts.toArray vs'.toArray i z ht hi hz (by rw [← hsz]; omega) h0 g1'
  refine ⟨_, _, _, hrun, hs, hI', ?_⟩
  refine .own _ _ _ _ ⟨0, sizeT P e, some (w.heap.size, len)⟩ _ (by simp [hI.len]) (Nat.le_refl _) (fun _ => ?_) ⟨_, _, _, rfl⟩
  exact ⟨_, _, rfl, Nat.le_refl _, by unfold maxLen; have := Nat.le_mul_of_pos_right len hpos; omega, by omega, fun _ => by simp⟩
end Go.Abs

/-
 ABS, part I: slice expressions, indexes, fields, arithmetic, comparisons, conversions, lengths.
-/
namespace Go.Abs
variable {P : Program} {base : Prot}
theorem PRep.lst_slice {pr : Prot} {es : List PVal} {v : Value} (h : PRep pr (.lst es) v) : ∃ a cap, v = .slice a es.length cap ∧ es.length ≤ cap ∧ cap ≤ maxLen := by
 cases h with
 | lst _ a len cap size blk off vals hl hc hm => subst hl; exact ⟨a, cap, rfl, hc, hm⟩
theorem PRep.sub {pr : Prot} {es : List PVal} {a : Option Addr} {n cap : Nat} (h : PRep pr (.lst es) (.slice a n cap)) (l hh m size : Nat) (hs : ∀ e ∈ es, e.cells.length = size) (h1 : l ≤ hh) (h2 : hh ≤ es.length) (h3 : hh ≤ m) (h4 : m ≤ cap) :
  PRep pr (.lst ((es.take hh).drop l)) (.slice (if m = l then a else a.map (·.add (l * size))) (hh - l) (m - l)) := by
 cases h with
 | lst _ _ _ _ size' blk off vals hl hc hm ha hs' hp hr hk =>
  have hlen : ((es.take hh).drop l).length = hh - l := by simp; omega
  refine .lst _ _ _ _ size' blk (off + l * size') (fun i j => vals (l + i) j) hlen.symm (by omega) (by omega) ?_ (fun e he => hs' e (List.mem_of_mem_take (List.mem_of_mem_drop he))) ?_ ?_ (fun e he => hk e (List.mem_of_mem_take (List.mem_of_mem_drop he)))
  ·intro hne
   have hpos : 0 < hh - l := by rw [← hlen]; exact List.length_pos_iff.2 hne
   have hes : es ≠ [] := by intro h; subst h; simp at h2; omega
   obtain ⟨e, he⟩ := List.exists_mem_of_ne_nil es hes
   have : size = size' := (hs e he).symm.trans (hs' e he)
   subst this
   rw [if_neg (by omega), ha hes]
   simp [addr_lit]
  ·intro i j hi hj
   have := hp (l + i) j (by omega) hj
   rw [Nat.add_mul] at this
   rw [show off + l * size' + i * size' + j = off + (l * size' + i * size') + j from by omega]
   exact this
  ·intro i e j x he hx
   rw [List.getElem?_drop, List.getElem?_take] at he
   split at he
   ·exact hr (l + i) e j x he hx
   ·cases he
theorem run_bounds {w : World} {isSlice : Bool} {len cap : Nat} {lo hi : Option Value} {l h : Nat} (hlo : lo = none ∧ l = 0 ∨ ∃ k, lo = some (.int k (l : Int))) (hhi : hi = none ∧ h = len ∨ ∃ k, hi = some (.int k (h : Int))) (h1 : l ≤ h) (h2 : h ≤ cap) :
  (Instr.sliceBounds isSlice len cap lo hi none).run P w = .ok (l, h, cap) w := by
 have e1 : ¬ ((cap : Int) < h) := by omega
 have e2 : ¬ ((h : Int) < l) := by omega
 have e3 : ¬ ((len : Int) < l) ∨ h ≠ len := by omega
 rcases hlo with ⟨rfl, rfl⟩ | ⟨k, rfl⟩ <;> rcases hhi with ⟨rfl, rfl⟩ | ⟨k', rfl⟩
 ·simp [Instr.sliceBounds]
 ·simp [Instr.sliceBounds, Instr.sliceBound, asIntOf, h2]
 ·simp [Instr.sliceBounds, Instr.sliceBound, asIntOf, h1]
 ·simp [Instr.sliceBounds, Instr.sliceBound, asIntOf, h1, h2]
theorem run_bounds3 {w : World} {isSlice : Bool} {len cap : Nat} {lo : Option Value} {kh km : IntKind} {l h : Nat} (hlo : lo = none ∧ l = 0 ∨ ∃ k, lo = some (.int k (l : Int))) (h1 : l ≤ h) (h2 : h ≤ cap) :
  (Instr.sliceBounds isSlice len cap lo (some (.int kh h)) (some (.int km h))).run P w = .ok (l, h, h) w := by
 rcases hlo with ⟨rfl, rfl⟩ | ⟨k, rfl⟩
 ·simp [Instr.sliceBounds, Instr.sliceBound, asIntOf, h2]
 ·simp [Instr.sliceBounds, Instr.sliceBound, asIntOf, h1, h2]
theorem run_bounds4 {w : World} {isSlice : Bool} {len cap : Nat} {lo : Option Value} {kh km : IntKind} {l h m : Nat} (hlo : lo = none ∧ l = 0 ∨ ∃ k, lo = some (.int k (l : Int))) (h1 : l ≤ h) (h2 : h ≤ m) (h3 : m ≤ cap) :
  (Instr.sliceBounds isSlice len cap lo (some (.int kh h)) (some (.int km m))).run P w = .ok (l, h, m) w := by
 rcases hlo with ⟨rfl, rfl⟩ | ⟨k, rfl⟩
 ·simp [Instr.sliceBounds, Instr.sliceBound, asIntOf, h2, h3]
 ·simp [Instr.sliceBounds, Instr.sliceBound, asIntOf, h1, h2, h3]
theorem optI_some {c : Ctx} {fr : AFr} {d : Nat} {lo : Option LOpd} {vlo : Option Value} {i : Int} (hn : vlo.isNone = lo.isNone) (hr : ∀ x v, lo = some x → vlo = some v → Rep c (opd fr x) v) (h : optI fr d lo = some i) :
  (lo = none ∧ vlo = none ∧ i = d) ∨ ∃ k, vlo = some (.int k i) := by
 cases lo with
 | none =>
  cases vlo with
  | none => simp [optI] at h; exact .inl ⟨rfl, rfl, h.symm⟩
  | some v => simp at hn
 | some x =>
  cases vlo with
  | none => simp at hn
  | some v =>
   simp only [optI] at h
   obtain ⟨k, rfl⟩ := intOf_some (hr x v rfl rfl) h
   exact .inr ⟨k, rfl⟩
theorem slImm_ok {c : Ctx} {H : Heap} {w : World} (hI : Inv base c H w) {fr : AFr} {t e : TypeId} (ht : P.underlying t = some (.slice e)) (hel : sizeT P e ≠ 0) {lo hi mx : Option LOpd} {vlo vhi vmx : Option Value}
  (nlo : vlo.isNone = lo.isNone) (nhi : vhi.isNone = hi.isNone) (nmx : vmx.isNone = mx.isNone)
  (rlo : ∀ x v, lo = some x → vlo = some v → Rep c (opd fr x) v) (rhi : ∀ x v, hi = some x → vhi = some v → Rep c (opd fr x) v) (rmx : ∀ x v, mx = some x → vmx = some v → Rep c (opd fr x) v)
  {x : AVal} {H' : Heap} (es : List PVal) (v : Value) (hp : PRep c.prot (.lst es) v) (h : (match optI fr 0 lo, optI fr es.length hi with
   | some l, some h => if 0 ≤ l ∧ l ≤ h ∧ h ≤ es.length ∧ (lo.isNone || sizeOk (sizeT P e) es) = true then
     match (generalizing := false) mx with
     | none => some (AVal.p (.lst ((es.take h.toNat).drop l.toNat)), H)
     | some m => if (intOf? (opd fr m) = some h ∧ hi.isSome = true) ∧ l < h then some (.tight ((es.take h.toNat).drop l.toNat), H) else none
    else none
   | _, _ => none) = some (x, H')) : Done P base (Instr.sliceAt t v vlo vhi vmx) c w x H' := by
 obtain ⟨d, hd⟩ := sizeT_some hel
 -- what the model's expression is, once the bounds are known
 have run : ∀ (a : Option Addr) (len cap l hh m : Nat), (Instr.sliceBounds true len cap vlo vhi vmx).run P w = .ok (l, hh, m) w →
   (Instr.sliceAt t (.slice a len cap) vlo vhi vmx).run P w = .ok (.slice (if m = l then a else a.map (·.add (l * sizeT P e))) (hh - l) (m - l)) w := fun a len cap l hh m hb => by
  simp [Instr.sliceAt, Instr.slice, run_underlying ht, hb, run_sizeT hd]
 split at h
 case h_2 => cases h
 rename_i l hh h1 h2
 split at h
 case isFalse => cases h
 rename_i hc
 obtain ⟨c0, c1, c2, c3⟩ := hc
 obtain ⟨a, cap, rfl, hcap, hmax⟩ := hp.lst_slice
 obtain ⟨l, rfl⟩ := Int.eq_ofNat_of_zero_le c0
 obtain ⟨hh, rfl⟩ := Int.eq_ofNat_of_zero_le (Int.le_trans c0 c1)
 simp only [Int.toNat_natCast] at h
 have blo : vlo = none ∧ l = 0 ∨ ∃ k, vlo = some (.int k (l : Int)) := by
  rcases optI_some nlo rlo h1 with ⟨_, q1, q2⟩ | q
  ·exact .inl ⟨q1, by omega⟩
  ·exact .inr q
 have bhi : vhi = none ∧ hh = es.length ∨ ∃ k, vhi = some (.int k (hh : Int)) := by
  rcases optI_some nhi rhi h2 with ⟨_, q1, q2⟩ | q
  ·exact .inl ⟨q1, by omega⟩
  ·exact .inr q
 -- the sizes of the elements matter where the slice does not begin at 0
 have sub : ∀ m, hh ≤ m → m ≤ cap → PRep c.prot (.lst ((es.take hh).drop l)) (.slice (if m = l then a else a.map (·.add (l * sizeT P e))) (hh - l) (m - l)) := by
  intro m m1 m2
  by_cases hlo : lo.isNone = true
  ·have hl0 : l = 0 := by
    rcases optI_some nlo rlo h1 with ⟨_, _, q2⟩ | ⟨k, q⟩
    ·omega
    ·rw [q] at nlo; rw [hlo] at nlo; simp at nlo
   subst hl0
   cases hp with
   | lst _ _ _ _ size' blk off vals hl hc hm ha hs' hpp hr hk =>
    have := PRep.sub (.lst es a es.length cap size' blk off vals hl hc hm ha hs' hpp hr hk) 0 hh m size' hs' (by omega) (by omega) m1 m2
    by_cases hm0 : m = 0
    ·simpa [hm0] using this
    ·have ea : a.map (·.add (0 * size')) = a.map (·.add (0 * sizeT P e)) := by simp
     rw [if_neg hm0] at this ⊢
     rw [← ea]; exact this
  ·have hsz : sizeOk (sizeT P e) es = true := by simpa [hlo] using c3
   exact hp.sub l hh m (sizeT P e) (fun y hy => by simpa using List.all_eq_true.1 hsz y hy) (by omega) (by omega) m1 m2
 cases mx with
 | none =>
  simp only at h
  cases h
  have : vmx = none := by cases vmx with | none => rfl | some v => simp at nmx
  subst this
  exact .still hI (run _ _ _ _ _ _ (run_bounds blo bhi (by omega) (by omega))) (.p _ _ (sub cap (by omega) (Nat.le_refl _)))
 | some m =>
  simp only at h
  split at h
  case isFalse => cases h
  rename_i hm0
  have hm := hm0.1
  have hlt0 := hm0.2
  cases h
  cases vmx with
  | none => simp at nmx
  | some v =>
   obtain ⟨km, rfl⟩ := intOf_some (rmx m v rfl rfl) hm.1
   have hvhi : ∃ k, vhi = some (.int k (hh : Int)) := by
    rcases optI_some nhi rhi h2 with ⟨q0, _, _⟩ | q
    ·rw [q0] at hm; simp at hm
    ·exact q
   obtain ⟨kh, rfl⟩ := hvhi
   refine .still hI (run _ _ _ _ _ _ (run_bounds3 blo (by omega) (by omega))) ?_
   have := sub hh (Nat.le_refl _) (by omega)
   have hlt : l < hh := by omega
   exact .tight _ _ _ (by simp; omega) this (fun e => by have := congrArg List.length e; simp at this; omega)
theorem slSl_ok {T : Tab} {c : Ctx} {H : Heap} {w : World} (hI : Inv base c H w) {fr : AFr} {t e : TypeId} (ht : P.underlying t = some (.slice e)) (hel : sizeT P e ≠ 0) {lx : LOpd} {lo hi mx : Option LOpd} {vx : Value} {vlo vhi vmx : Option Value}
  (rx : Rep c (opd fr lx) vx) (nlo : vlo.isNone = lo.isNone) (nhi : vhi.isNone = hi.isNone) (nmx : vmx.isNone = mx.isNone)
  (rlo : ∀ x v, lo = some x → vlo = some v → Rep c (opd fr x) v) (rhi : ∀ x v, hi = some x → vhi = some v → Rep c (opd fr x) v) (rmx : ∀ x v, mx = some x → vmx = some v → Rep c (opd fr x) v)
  {x : AVal} {H' : Heap} (h : evalOp T (.slSl (sizeT P e) lx lo hi mx) fr H = some (x, H')) : Done P base (Instr.sliceAt t vx vlo vhi vmx) c w x H' := by
 obtain ⟨d, hd⟩ := sizeT_some hel
 -- what the model's expression is, once the bounds are known
 have run : ∀ (a : Option Addr) (len cap l hh m : Nat), (Instr.sliceBounds true len cap vlo vhi vmx).run P w = .ok (l, hh, m) w →
   (Instr.sliceAt t (.slice a len cap) vlo vhi vmx).run P w = .ok (.slice (if m = l then a else a.map (·.add (l * sizeT P e))) (hh - l) (m - l)) w := fun a len cap l hh m hb => by
  simp [Instr.sliceAt, Instr.slice, run_underlying ht, hb, run_sizeT hd]
 simp only [evalOp] at h
 split at h
 ·rename_i k off len ver hx
  rw [hx] at rx
  split at h
  ·rename_i m
   cases hk : H[k]? with
   | none => rw [hk] at h; cases h
   | some en =>
    rw [hk] at h
    simp only at h
    split at h
    case h_2 => cases h
    rename_i l hh mm h1 h2 h3
    split at h
    case isFalse => cases h
    rename_i hc
    obtain ⟨c0, c1, c2, c3, c4, hver⟩ := hc
    cases h
    cases vmx with
    | none => simp at nmx
    | some v =>
     obtain ⟨km, rfl⟩ := intOf_some (rmx m v rfl rfl) h3
     have hvhi : ∃ k, vhi = some (.int k hh) := by
      rcases optI_some nhi rhi h2 with ⟨q0, _, _⟩ | q
      ·rw [q0] at c4; simp at c4
      ·exact q
     obtain ⟨kh, rfl⟩ := hvhi
     obtain ⟨l, rfl⟩ := Int.eq_ofNat_of_zero_le c0
     obtain ⟨hh, rfl⟩ := Int.eq_ofNat_of_zero_le (Int.le_trans c0 c1)
     obtain ⟨mm, rfl⟩ := Int.eq_ofNat_of_zero_le (Int.le_trans (Int.le_trans c0 c1) c2)
     have blo : vlo = none ∧ l = 0 ∨ ∃ k, vlo = some (.int k (l : Int)) := by
      rcases optI_some nlo rlo h1 with ⟨_, q1, q2⟩ | q
      ·exact .inl ⟨q1, by omega⟩
      ·exact .inr q
     obtain ⟨lc, hl, he, hv⟩ := own_val hI rx hk hver
     obtain ⟨a, cp, rfl, p1, p2⟩ := hv.slice
     exact .still hI (run a len cp l hh mm (run_bounds4 blo (by omega) (by omega) (by omega))) (.junk _)
  cases hk : H[k]? with
  | none => rw [hk] at h; cases h
  | some en =>
   rw [hk] at h
   simp only at h
   split at h
   case h_2 => cases h
   rename_i l hh h1 h2
   split at h
   case isFalse =>
    split at h
    case isFalse => cases h
    rename_i hc
    obtain ⟨c0, c1, rfl, c2, hver, hsz⟩ := hc
    cases h
    have : vmx = none := by cases vmx with | none => rfl | some v => simp at nmx
    subst this
    obtain ⟨l, rfl⟩ := Int.eq_ofNat_of_zero_le c0
    obtain ⟨hh, rfl⟩ := Int.eq_ofNat_of_zero_le (Int.le_trans c0 c1)
    have blo : vlo = none ∧ l = 0 ∨ ∃ k, vlo = some (.int k (l : Int)) := by
     rcases optI_some nlo rlo h1 with ⟨_, q1, q2⟩ | q
     ·exact .inl ⟨q1, by omega⟩
     ·exact .inr q
    have bhi : vhi = none ∧ hh = len ∨ ∃ k, vhi = some (.int k (hh : Int)) := by
     rcases optI_some nhi rhi h2 with ⟨_, q1, q2⟩ | q
     ·exact .inl ⟨q1, by omega⟩
     ·exact .inr q
    obtain ⟨lc, hl, he, hv⟩ := own_val hI rx hk hver
    obtain ⟨a, cp, rfl, p1, p2⟩ := hv.slice
    have hcp : hh ≤ cp := by
     have hv2 := hv
     unfold OwnVal at hv2
     cases hp : lc.place with
     | none =>
      have := he.nowhere hp
      rw [this] at c2
      simp at c2
      omega
     | some q =>
      obtain ⟨g, cap⟩ := q
      simp only [hp] at hv2
      obtain ⟨a', cp', q1, q2, q3, q4, q5⟩ := hv2
      cases q1
      obtain ⟨cur, ty', a1, a2, a3, a4, a5, a6⟩ := he.there g cap hp
      have := (q5 (.inr trivial)).2
      omega
    refine .still hI (run a len cp l hh cp (run_bounds blo bhi (by omega) hcp)) ?_
    have e1 : ((hh : Int) - (l : Int)).toNat = hh - l := by omega
    rw [e1, Int.toNat_natCast]
    refine .own _ _ _ _ lc _ hl (by rw [he.ver, hver]; exact Nat.le_refl _) (fun _ => ?_) ⟨_, _, _, rfl⟩
    unfold OwnVal at hv ⊢
    cases hp : lc.place with
    | none =>
     have h0 := he.nowhere hp
     rw [h0] at c2
     simp only [hp] at hv ⊢
     obtain ⟨a', q1, _, rfl, q4⟩ := hv
     cases q1
     have : hh = 0 := by simp at c2; omega
     subst this
     have : l = 0 := by omega
     subst this
     exact ⟨_, rfl, rfl, rfl, by simpa using q4⟩
    | some q =>
     obtain ⟨g, cap⟩ := q
     simp only [hp] at hv ⊢
     obtain ⟨a', cp', q1, q2, q3, q4, q5⟩ := hv
     cases q1
     obtain ⟨cur, ty', a1, a2, a3, a4, a5, a6⟩ := he.there g cap hp
     obtain ⟨rfl, q6⟩ := q5 (.inr trivial)
     refine ⟨_, _, rfl, by omega, by omega, by omega, fun hor => ?_⟩
     constructor
     ·by_cases hml : cp = l
      ·rw [if_pos hml]
       rcases hor with h | h
       ·omega
       ·subst h; simp
      ·rw [if_neg hml]
       simp only [Option.map_some, addr_lit]
       rw [he.size, hsz]
       simp
     ·omega
   rename_i hc
   obtain ⟨c0, c1, c2, hver, hsz⟩ := hc
   cases h
   have : vmx = none := by cases vmx with | none => rfl | some v => simp at nmx
   subst this
   obtain ⟨l, rfl⟩ := Int.eq_ofNat_of_zero_le c0
   obtain ⟨hh, rfl⟩ := Int.eq_ofNat_of_zero_le (Int.le_trans c0 c1)
   have blo : vlo = none ∧ l = 0 ∨ ∃ k, vlo = some (.int k (l : Int)) := by
    rcases optI_some nlo rlo h1 with ⟨_, q1, q2⟩ | q
    ·exact .inl ⟨q1, by omega⟩
    ·exact .inr q
   have bhi : vhi = none ∧ hh = len ∨ ∃ k, vhi = some (.int k (hh : Int)) := by
    rcases optI_some nhi rhi h2 with ⟨_, q1, q2⟩ | q
    ·exact .inl ⟨q1, by omega⟩
    ·exact .inr q
   obtain ⟨lc, hl, he, hv⟩ := own_val hI rx hk hver
   obtain ⟨a, cp, rfl, p1, p2⟩ := hv.slice
   refine .still hI (run a len cp l hh cp (run_bounds blo bhi (by omega) (by omega))) ?_
   have e1 : ((hh : Int) - (l : Int)).toNat = hh - l := by omega
   rw [e1, Int.toNat_natCast]
   refine .own _ _ _ _ lc _ hl (by rw [he.ver, hver]; exact Nat.le_refl _) (fun _ => ?_) ⟨_, _, _, rfl⟩
   unfold OwnVal at hv ⊢
   cases hp : lc.place with
   | none =>
    simp only [hp] at hv ⊢
    obtain ⟨a', q1, rfl, rfl, q4⟩ := hv
    cases q1
    have : hh = 0 := by omega
    subst this
    have : l = 0 := by omega
    subst this
    exact ⟨_, rfl, rfl, rfl, by simpa using q4⟩
   | some q =>
    obtain ⟨g, cap⟩ := q
    simp only [hp] at hv ⊢
    obtain ⟨a', cp', q1, q2, q3, q4, q5⟩ := hv
    cases q1
    refine ⟨_, _, rfl, by omega, by omega, by omega, fun hor => ?_⟩
    have hlen : 0 < len ∨ off = 0 := by
     rcases hor with h | h
     ·left; omega
     ·right; omega
    obtain ⟨rfl, rfl⟩ := q5 hlen
    constructor
    ·by_cases hml : cap - off = l
     ·rw [if_pos hml]
      rcases hor with h | h
      ·omega
      ·have : off = 0 := by omega
       have : l = 0 := by omega
       subst this
       rw [Nat.add_zero]
     ·rw [if_neg hml]
      simp only [Option.map_some, addr_lit]
      rw [he.size, hsz, Nat.add_mul]
    ·omega
 ·rename_i es hx
  rw [hx] at rx
  cases rx with
  | p _ _ hp => exact slImm_ok hI ht hel nlo nhi nmx rlo rhi rmx es _ hp h
 ·rename_i es hx
  rw [hx] at rx
  cases rx with
  | tight _ a n hn hp hz => subst hn; exact slImm_ok hI ht hel nlo nhi nmx rlo rhi rmx es _ hp h
 ·cases h
end Go.Abs

/-
  ABS, part J: strings, indexes, fields, tuples, arithmetic, comparisons, conversions, lengths.
-/
namespace Go.Abs
variable {P : Program} {base : Prot}
theorem slStr_ok {T : Tab} {c : Ctx} {H : Heap} {w : World} (hI : Inv base c H w) {fr : AFr} {t : TypeId} (ht : P.underlying t = some .string) {lx : LOpd} {lo hi : Option LOpd} {vx : Value} {vlo vhi : Option Value}
    (rx : Rep c (opd fr lx) vx) (nlo : vlo.isNone = lo.isNone) (nhi : vhi.isNone = hi.isNone)
    (rlo : ∀ x v, lo = some x → vlo = some v → Rep c (opd fr x) v) (rhi : ∀ x v, hi = some x → vhi = some v → Rep c (opd fr x) v)
    {x : AVal} {H' : Heap} (h : evalOp T (.slStr lx lo hi) fr H = some (x, H')) : Done P base (Instr.sliceAt t vx vlo vhi none) c w x H' := by
  simp only [evalOp] at h
  split at h
  case h_2 => cases h
  rename_i s hx
  rw [hx] at rx
  split at h
  case h_2 => cases h
  rename_i l hh h1 h2
  split at h
  case isFalse => cases h
  rename_i hc
  obtain ⟨c0, c1, c2⟩ := hc
  cases h
  obtain ⟨l, rfl⟩ := Int.eq_ofNat_of_zero_le c0
  obtain ⟨hh, rfl⟩ := Int.eq_ofNat_of_zero_le (Int.le_trans c0 c1)
  have blo : vlo = none ∧ l = 0 ∨ ∃ k, vlo = some (.int k (l : Int)) := by
    rcases optI_some nlo rlo h1 with ⟨_, q1, q2⟩ | q
    · exact .inl ⟨q1, by omega⟩
    · exact .inr q
  have bhi : vhi = none ∧ hh = s.length ∨ ∃ k, vhi = some (.int k (hh : Int)) := by
    rcases optI_some nhi rhi h2 with ⟨_, q1, q2⟩ | q
    · exact .inl ⟨q1, by omega⟩
    · exact .inr q
  cases rx with
  | p _ _ hp =>
    cases hp with
    | str _ hs =>
      have hb := run_bounds (P := P) (w := w) (isSlice := false) (len := s.length) (cap := s.length) blo bhi (by omega) (by omega)
      have hsz : (⟨s.toArray⟩ : ByteArray).size = s.length := by simp [ByteArray.size]
      refine .still hI (v := .string ((⟨s.toArray⟩ : ByteArray).extract l hh)) ?_ ?_
      · simp [Instr.sliceAt, Instr.slice, run_underlying ht, hsz, hb]
      · simp only [Int.toNat_natCast]
        have : (⟨s.toArray⟩ : ByteArray).extract l hh = ⟨((s.take hh).drop l).toArray⟩ := by
          apply ByteArray.ext
          rw [ByteArray.data_extract]
          simp only [List.extract_toArray, List.extract_eq_take_drop, List.drop_take]
        rw [this]
        exact .p _ _ (.str _ (by simp; omega))
theorem istr_ok {T : Tab} {c : Ctx} {H : Heap} {w : World} (hI : Inv base c H w) {fr : AFr} {t : TypeId} (ht : P.underlying t = some .string) {lx li : LOpd} {vx vi : Value}
    (rx : Rep c (opd fr lx) vx) (ri : Rep c (opd fr li) vi) {x : AVal} {H' : Heap} (h : evalOp T (.istr lx li) fr H = some (x, H')) : Done P base (Instr.index t vx vi) c w x H' := by
  simp only [evalOp] at h
  split at h
  case h_2 => cases h
  rename_i s i hx hi
  rw [hx] at rx
  obtain ⟨k, rfl⟩ := intOf_some ri hi
  split at h
  case isFalse => cases h
  rename_i h0
  cases hb : s[i.toNat]? with
  | none => rw [hb] at h; cases h
  | some b =>
    rw [hb] at h; cases h
    cases rx with
    | p _ _ hp =>
      cases hp with
      | str _ hs =>
        have hget : (⟨s.toArray⟩ : ByteArray)[i.toNat]? = some b := by
          have hlt : i.toNat < s.length := (List.getElem?_eq_some_iff.1 hb).1
          have hv := (List.getElem?_eq_some_iff.1 hb).2
          rw [getElem?_pos _ _ (by simpa [ByteArray.size] using hlt)]
          congr 1
        refine .still hI (v := .int .u8 b.toNat) ?_ (.p _ _ (.int _ _))
        simp [Instr.index, asIntOf, run_underlying ht, h0, hget]
theorem run_part {t : TypeId} {d : TypeDesc} (h : P.underlying t = some d) (w : World) (vs : List Value) (off : Nat) (v : Value)
    (hv : if isAggT P t = true then v = .agg ((vs.drop off).take (sizeT P t)).toArray else (vs.drop off).take (sizeT P t) = [v]) : (part t vs.toArray off).run P w = .ok v w := by
  unfold part
  simp only [Sem.run_bind, run_isAgg h, Result.andThen_ok]
  cases hb : isAggT P t with
  | true =>
    simp only [hb, if_true] at hv ⊢
    subst hv
    simp only [Sem.run_bind, run_sizeT h, Result.andThen_ok, Sem.run_pure]
    congr 2
    simp [List.extract_toArray, List.extract_eq_take_drop]
  | false =>
    simp only [hb, Bool.false_eq_true, if_false] at hv ⊢
    have h0 : ((vs.drop off).take (sizeT P t))[0]? = some v := by rw [hv]; rfl
    rw [List.getElem?_take] at h0
    split at h0
    · simp only [List.getElem?_drop, Nat.add_zero] at h0
      simp [h0]
    · cases h0
theorem isAgg_rep {c : Ctx} {x : AVal} {v : Value} (r : Rep c x v) (h : x.isAgg = true) : ∃ vs : List Value, v = .agg vs.toArray ∧ RepC c x.cells vs := by
  cases r with
  | p x v hp =>
    cases hp with
    | agg cells vs hl hr hk =>
      refine ⟨vs, rfl, ⟨by simp [AVal.cells, PVal.cells, hl], fun j y u h1 h2 => ?_⟩, fun y hy => ?_⟩
      · simp only [AVal.cells, PVal.cells, List.getElem?_map] at h1
        obtain ⟨z, hz, rfl⟩ := Option.map_eq_some_iff.1 h1
        exact .p _ _ (hr j z u hz h2)
      · simp only [AVal.cells, PVal.cells] at hy
        obtain ⟨z, hz, rfl⟩ := List.mem_map.1 hy
        exact hk z hz
    | _ => simp [AVal.isAgg] at h
  | agg cells vs hl hr hk => exact ⟨vs, rfl, ⟨hl, hr⟩, hk⟩
  | _ => simp [AVal.isAgg] at h
theorem part_ok {c : Ctx} {x y : AVal} {v : Value} {t : TypeId} {d : TypeDesc} (ht : P.underlying t = some d) (w : World) (r : Rep c x v) (hag : x.isAgg = true) {off : Nat}
    (hf : fromCells (isAggT P t) ((x.cells.drop off).take (sizeT P t)) = some y) : ∃ vs : List Value, v = .agg vs.toArray ∧ ∃ u, (part t vs.toArray off).run P w = .ok u w ∧ Rep c y u := by
  obtain ⟨vs, rfl, rc⟩ := isAgg_rep r hag
  obtain ⟨u, h1, h2⟩ := rep_fromCells ((rc.drop off).take (sizeT P t)) hf
  exact ⟨vs, rfl, u, run_part ht w vs off u h2, h1⟩
theorem fld_ok {T : Tab} {c : Ctx} {H : Heap} {w : World} (hI : Inv base c H w) {fr : AFr} {t : TypeId} {fields : Array Field} {i : Nat} {f : Field} {d : TypeDesc} (ht : P.underlying t = some (.struct fields)) (hf : fields[i]? = some f) (hd : P.underlying f.type = some d)
    {lx : LOpd} {vx : Value} (rx : Rep c (opd fr lx) vx) {x : AVal} {H' : Heap} (h : evalOp T (.fld f.offset (sizeT P f.type) (isAggT P f.type) lx) fr H = some (x, H')) : Done P base (Instr.field t vx i) c w x H' := by
  simp only [evalOp] at h
  split at h
  case isFalse => cases h
  rename_i hc
  split at h
  case h_2 => cases h
  rename_i y hy
  cases h
  obtain ⟨vs, rfl, u, h1, h2⟩ := part_ok hd w rx hc.2 hy
  exact .still hI (by simp [Instr.field, run_underlying ht, hf, asAgg, h1]) h2
theorem iarr_ok {T : Tab} {c : Ctx} {H : Heap} {w : World} (hI : Inv base c H w) {fr : AFr} {t e : TypeId} {len : Nat} {d : TypeDesc} (ht : P.underlying t = some (.array len e)) (hd : P.underlying e = some d)
    {lx li : LOpd} {vx vi : Value} (rx : Rep c (opd fr lx) vx) (ri : Rep c (opd fr li) vi) {x : AVal} {H' : Heap} (h : evalOp T (.iarr len (sizeT P e) (isAggT P e) lx li) fr H = some (x, H')) : Done P base (Instr.index t vx vi) c w x H' := by
  simp only [evalOp] at h
  cases hi : intOf? (opd fr li) with
  | none => rw [hi] at h; cases h
  | some i =>
    rw [hi] at h
    simp only at h
    obtain ⟨k, rfl⟩ := intOf_some ri hi
    split at h
    case isFalse => cases h
    rename_i hc
    obtain ⟨c0, c1, _, c3⟩ := hc
    split at h
    case h_2 => cases h
    rename_i y hy
    cases h
    obtain ⟨vs, rfl, u, h1, h2⟩ := part_ok hd w rx c3 hy
    exact .still hI (by simp [Instr.index, asIntOf, run_underlying ht, c0, c1, run_sizeT hd, h1]) h2
theorem iaadr_ok {T : Tab} {c : Ctx} {H : Heap} {w : World} (hI : Inv base c H w) {fr : AFr} {t el : TypeId} {len : Nat} (ht : P.underlying t = some (.array len el)) (hel : sizeT P el ≠ 0)
    {lx li : LOpd} {vx vi : Value} (rx : Rep c (opd fr lx) vx) (ri : Rep c (opd fr li) vi) {x : AVal} {H' : Heap} (h : evalOp T (.iaadr len (sizeT P el) lx li) fr H = some (x, H')) :
    Done P base (Instr.indexAt t vx vi) c w x H' := by
  obtain ⟨d, hd⟩ := sizeT_some hel
  simp only [evalOp] at h
  cases hi : intOf? (opd fr li) with
  | none => rw [hi] at h; cases h
  | some i =>
    rw [hi] at h
    obtain ⟨ki, rfl⟩ := intOf_some ri hi
    have run : ∀ (a : Addr), 0 ≤ i → i < len → (Instr.indexAt t (.pointer (some a)) (.int ki i)).run P w = .ok (.pointer (some (a.add (i.toNat * sizeT P el)))) w := fun a h0 h1 => by
      simp [Instr.indexAt, asIntOf, run_underlying ht, Instr.sureAddr, h0, h1, run_sizeT hd]
    simp only at h
    split at h
    · rename_i k ver j o hx
      rw [hx] at rx
      cases hk : H[k]? with
      | none => rw [hk] at h; cases h
      | some e =>
        rw [hk] at h
        simp only at h
        split at h
        case isFalse => cases h
        rename_i hc
        obtain ⟨h0, h1, hver⟩ := hc
        cases h
        cases rx with
        | optr _ _ _ _ l v hl hv hh ho =>
          obtain ⟨g, cap, hp, rfl⟩ := hh (by rw [(hI.ent k e l hk hl).ver]; exact hver.symm)
          refine .still hI (run _ h0 h1) ?_
          rw [addr_lit]
          exact .optr _ _ _ _ l _ hl hv (fun _ => ⟨g, cap, hp, by rw [Nat.add_assoc]⟩) ⟨_, rfl⟩
    · rename_i cells hx
      rw [hx] at rx
      split at h
      case isFalse => cases h
      rename_i hc
      obtain ⟨h0, h1, h2⟩ := hc
      cases h
      cases rx with
      | p _ _ hp =>
        cases hp with
        | cptr _ blk off vals hp hr hk =>
          refine .still hI (run _ h0 h1) ?_
          rw [addr_lit]
          exact .p _ _ (.cptr _ blk _ (fun j => vals (i.toNat * sizeT P el + j)) (fun j hj => by rw [Nat.add_assoc]; exact hp _ (by simp at hj; omega)) (fun j z hz => hr _ z (by simpa using hz)) (fun z hz => hk z (List.mem_of_mem_drop hz)))
    · cases h
theorem ext_ok {T : Tab} {c : Ctx} {H : Heap} {w : World} (hI : Inv base c H w) {fr : AFr} {lx : LOpd} {vx : Value} {i : Nat} (rx : Rep c (opd fr lx) vx) {x : AVal} {H' : Heap} (h : evalOp T (.ext lx i) fr H = some (x, H')) :
    Done P base (Instr.extract vx i) c w x H' := by
  simp only [evalOp] at h
  split at h
  · rename_i l hx
    rw [hx] at rx
    cases hl : l[i]? with
    | none => rw [hl] at h; cases h
    | some y =>
      rw [hl] at h; cases h
      cases rx with
      | p _ _ hp =>
        cases hp with
        | tup _ vs hlen hr =>
          have hi : i < vs.length := by rw [hlen]; exact (List.getElem?_eq_some_iff.1 hl).1
          exact .still hI (v := vs[i]) (by simp [Instr.extract, hi]) (.p _ _ (hr i y _ hl (by simp [hi])))
  · rename_i l hx
    rw [hx] at rx
    cases hl : l[i]? with
    | none => rw [hl] at h; cases h
    | some y =>
      rw [hl] at h; cases h
      cases rx with
      | tup _ vs hlen hr =>
        have hi : i < vs.length := by rw [hlen]; exact (List.getElem?_eq_some_iff.1 hl).1
        exact .still hI (v := vs[i]) (by simp [Instr.extract, hi]) (hr i _ _ hl (by simp [hi]))
  · cases h
theorem lenOf_ok {c : Ctx} {H : Heap} {w : World} (hI : Inv base c H w) {x : AVal} {v : Value} {n : Nat} (r : Rep c x v) (h : lenOf? H x = some n) : ∃ a m, v = .slice a n m := by
  cases x with
  | p y =>
    cases y <;> simp [lenOf?] at h
    subst h
    cases r with
    | p _ _ hp => obtain ⟨a, m, rfl, _⟩ := hp.lst_slice; exact ⟨a, m, rfl⟩
  | tight es => simp [lenOf?] at h; subst h; cases r with | tight _ a n hn _ _ => subst hn; exact ⟨a, _, rfl⟩
  | own k off len ver =>
    simp only [lenOf?] at h
    cases hk : H[k]? with
    | none => rw [hk] at h; cases h
    | some e =>
      rw [hk] at h
      simp only at h
      split at h
      case isFalse => cases h
      rename_i hver
      cases h
      obtain ⟨l, _, _, hv⟩ := own_val hI r hk hver
      obtain ⟨a, cp, rfl, _⟩ := hv.slice
      exact ⟨a, cp, rfl⟩
  | _ => simp [lenOf?] at h
theorem len_ok {T : Tab} {c : Ctx} {H : Heap} {w : World} (hI : Inv base c H w) {fr : AFr} {t e : TypeId} (ht : P.underlying t = some (.slice e)) {lx : LOpd} {vx : Value} (rx : Rep c (opd fr lx) vx) {ty : TypeId} {ts : Array TypeId} (hts : ts[0]? = some t)
    {x : AVal} {H' : Heap} (h : evalOp T (.len lx) fr H = some (x, H')) : Done P base (Builtin.len_ ts ty #[vx]) c w x H' := by
  simp only [evalOp] at h
  cases hl : lenOf? H (opd fr lx) with
  | none => rw [hl] at h; cases h
  | some n =>
    rw [hl] at h; cases h
    obtain ⟨a, m, rfl⟩ := lenOf_ok hI rx hl
    exact .still hI (v := goInt n) (by simp [Builtin.len_, hts, run_underlying ht]) (.p _ _ (.int _ _))
theorem lenS_ok {T : Tab} {c : Ctx} {H : Heap} {w : World} (hI : Inv base c H w) {fr : AFr} {t : TypeId} (ht : P.underlying t = some .string) {lx : LOpd} {vx : Value} (rx : Rep c (opd fr lx) vx) {ty : TypeId} {ts : Array TypeId} (hts : ts[0]? = some t)
    {x : AVal} {H' : Heap} (h : evalOp T (.lenS lx) fr H = some (x, H')) : Done P base (Builtin.len_ ts ty #[vx]) c w x H' := by
  simp only [evalOp] at h
  split at h
  case h_2 => cases h
  rename_i s hx
  cases h
  rw [hx] at rx
  cases rx with
  | p _ _ hp =>
    cases hp with
    | str _ hs =>
      refine .still hI (v := goInt s.length) ?_ (.p _ _ (.int _ _))
      have : (⟨s.toArray⟩ : ByteArray).size = s.length := by simp [ByteArray.size]
      rw [← this]
      simp [Builtin.len_, hts, run_underlying ht]
theorem binI_run (op : BinOp) (k : IntKind) (a b : Int) (t : TypeId) (p : PVal) (h : binI op k a b = some p) (w : World) : ∃ v, (binOp op t (.int k a) (.int k b)).run P w = .ok v w ∧ ∀ pr, PRep pr p v := by
  have bits : ∀ op, (op = .and ∨ op = .or ∨ op = .xor ∨ op = .andNot) → binOp op t (.int k a) (.int k b) = Op.intBits op k a b := by
    intro op h
    rcases h with rfl | rfl | rfl | rfl <;> simp only [binOp, ne_eq, not_true, if_false]
  cases op <;> simp only [binI] at h <;> try cases h
  all_goals first
    | exact ⟨_, by rw [bits _ (by simp)]; rfl, fun pr => .int _ _⟩
    | exact ⟨_, by simp [binOp, Op.intArith], fun pr => .int _ _⟩
    | exact ⟨_, by simp [binOp, Op.intCmp], fun pr => .bool _⟩
    | (split at h <;> cases h; rename_i h0; exact ⟨_, by simp [binOp, Op.intDiv, h0], fun pr => .int _ _⟩)
theorem shiftI_run (op : BinOp) (k k' : IntKind) (a b : Int) (t : TypeId) (p : PVal) (h : shiftI op k a b = some p) (w : World) : ∃ v, (binOp op t (.int k a) (.int k' b)).run P w = .ok v w ∧ ∀ pr, PRep pr p v := by
  unfold shiftI at h
  split at h
  · cases h
  rename_i h0
  have run : ∀ op, (op = .shl ∨ op = .shr) → binOp op t (.int k a) (.int k' b) = Op.shift op k a k' b := by
    intro op h
    rcases h with rfl | rfl <;> rfl
  cases op <;> simp only at h <;> cases h
  all_goals exact ⟨_, by rw [run _ (by simp)]; unfold Op.shift; rw [if_neg h0]; rfl, fun pr => .int _ _⟩
theorem binS_run (op : BinOp) (a b : List UInt8) (t : TypeId) (p : PVal) (h : binS op a b = some p) (w : World) : ∃ v, (binOp op t (.string ⟨a.toArray⟩) (.string ⟨b.toArray⟩)).run P w = .ok v w ∧ ∀ pr, PRep pr p v := by
  cases op <;> simp only [binS] at h <;> try cases h
  all_goals first
    | exact ⟨_, by simp [binOp, Op.stringOp], fun pr => .bool _⟩
    | (split at h <;> cases h
       rename_i hl
       have hs : ∀ l : List UInt8, (⟨l.toArray⟩ : ByteArray).size = l.length := fun l => by simp [ByteArray.size]
       have happ : (⟨a.toArray⟩ : ByteArray) ++ ⟨b.toArray⟩ = ⟨(a ++ b).toArray⟩ := by
         apply ByteArray.ext
         simp
       refine ⟨.string ((⟨a.toArray⟩ : ByteArray) ++ ⟨b.toArray⟩), ?_, fun pr => by rw [happ]; exact .str _ (by simpa using hl)⟩
       have hn : ¬ (((a.length + b.length : Nat) : Int) > IntKind.i64.max) := by unfold maxLen at hl; simp; omega
       unfold binOp Op.stringOp
       simp only [hs]
       rw [if_neg hn]
       rfl)
theorem binF_run (op : BinOp) (k : FloatKind) (a b : Nat) (t : TypeId) (p : PVal) (h : binF op k a b = some p) (w : World) : ∃ v, (binOp op t (.float k a) (.float k b)).run P w = .ok v w ∧ ∀ pr, PRep pr p v := by
  have sp : ∀ op, binOp op t (.float k a) (.float k b) = match op with | .add | .sub | .mul | .quo => Op.floatArith op k a b | _ => Op.floatCmp op k a b := by
    intro op
    cases op <;> simp only [binOp, ne_eq, not_true, if_false]
  cases op <;> simp only [binF] at h <;> try cases h
  all_goals first
    | exact ⟨_, by rw [sp]; rfl, fun pr => .bool _⟩
    | (obtain ⟨r, hr, rfl⟩ := Option.map_eq_some_iff.1 h
       exact ⟨.float k r, by rw [sp]; simp [Op.floatArith, hr], fun pr => .flt _ _⟩)
theorem eqGuard_plain {op : BinOp} {t : TypeId} {x y : Operand} {a b : Value} (ha : ∀ cs, a ≠ .agg cs) (hn : a ≠ .nilIface) (w : World) : (eqGuard op t x y a b).run P w = .ok () w := by
  cases a with
  | agg cs => exact absurd rfl (ha cs)
  | nilIface => exact absurd rfl hn
  | _ => cases op <;> simp [eqGuard]
end Go.Abs

/-
 ABS, part K: append, copy, conversions between strings and bytes.
-/
namespace Go.Abs
variable {P : Program} {base : Prot}
structure Elems (c : Ctx) (w : World) (ys : List AVal) (size : Nat) (a : Option Addr) (vs : List Value) : Prop where
 len : vs.length = ys.length * size
 addr : ys ≠ [] → ∃ blk off, a = some ⟨blk, off, none⟩ ∧ ∀ (j : Nat) v, vs[j]? = some v → w.cell? ⟨blk, off + j, none⟩ = some v
 rep : ∀ (i : Nat) y (j : Nat) z, ys[i]? = some y → y.cells[j]? = some z → ∃ v, vs[i * size + j]? = some v ∧ Rep c z v
 one : ∀ v ∈ vs, v.oneCell' = true
theorem sliceOf_some {H : Heap} {x : AVal} {ys : List AVal} (h : sliceOf H x = some ys) : elemsOf H x = some ys ∧ ∀ s, x ≠ .p (.str s) := by
 unfold sliceOf at h
 split at h
 ·cases h
 ·rename_i hn; exact ⟨h, fun s hs => hn s hs⟩
theorem idx_lt {i n size j : Nat} (hi : i < n) (hj : j < size) : i * size + j < n * size := by
 have h1 : (i + 1) * size ≤ n * size := Nat.mul_le_mul_right _ (by omega)
 rw [Nat.add_mul, Nat.one_mul] at h1
 omega
theorem Elems.mk' {c : Ctx} {w : World} {ys : List AVal} {size : Nat} {a : Option Addr} (blk off : Nat) (ha : ys ≠ [] → a = some ⟨blk, off, none⟩) (hs : ∀ y ∈ ys, y.cells.length = size ∧ ∀ z ∈ y.cells, z.isCell = true)
  (h : ∀ (i : Nat) y (j : Nat) z, ys[i]? = some y → y.cells[j]? = some z → ∃ v, w.cell? ⟨blk, off + i * size + j, none⟩ = some v ∧ Rep c z v) : ∃ vs, Elems c w ys size a vs := by
 let vs := (List.range (ys.length * size)).map fun o => (w.cell? ⟨blk, off + o, none⟩).getD undef
 have hget : ∀ (i : Nat) y (j : Nat) z, ys[i]? = some y → y.cells[j]? = some z → ∃ v, w.cell? ⟨blk, off + (i * size + j), none⟩ = some v ∧ vs[i * size + j]? = some v ∧ Rep c z v := by
  intro i y j z hy hz
  obtain ⟨v, h1, h2⟩ := h i y j z hy hz
  have hj : j < size := by rw [← (hs y (List.mem_of_getElem? hy)).1]; exact (List.getElem?_eq_some_iff.1 hz).1
  have hlt := idx_lt (List.getElem?_eq_some_iff.1 hy).1 hj
  refine ⟨v, by rw [← Nat.add_assoc]; exact h1, ?_, h2⟩
  simp only [vs, List.getElem?_map, List.getElem?_range hlt, Option.map_some]
  rw [← Nat.add_assoc, h1, Option.getD_some]
 have hall : ∀ o, o < ys.length * size → ∃ v z, w.cell? ⟨blk, off + o, none⟩ = some v ∧ vs[o]? = some v ∧ Rep c z v ∧ z.isCell = true := by
  intro o ho
  have hpos : 0 < size := by
   rcases Nat.eq_zero_or_pos size with h | h
   ·rw [h] at ho; omega
   ·exact h
  have hi : o / size < ys.length := Nat.div_lt_of_lt_mul (by rw [Nat.mul_comm]; exact ho)
  have hsy := hs ys[o / size] (List.getElem_mem hi)
  have hj : o % size < ys[o / size].cells.length := by rw [hsy.1]; exact Nat.mod_lt _ hpos
  obtain ⟨v, h1, h2, h3⟩ := hget (o / size) ys[o / size] (o % size) (ys[o / size].cells[o % size]) (by simp) (by simp)
  have e : o / size * size + o % size = o := by rw [Nat.mul_comm]; exact Nat.div_add_mod o size
  rw [e] at h1 h2
  exact ⟨v, _, h1, h2, h3, hsy.2 _ (List.getElem_mem hj)⟩
 refine ⟨vs, by simp [vs], fun hne => ⟨blk, off, ha hne, fun j v hv => ?_⟩, fun i y j z hy hz => ?_, fun v hv => ?_⟩
 ·have hj : j < ys.length * size := by have := (List.getElem?_eq_some_iff.1 hv).1; simpa [vs] using this
  obtain ⟨v', z, h1, h2, _⟩ := hall j hj
  rw [hv] at h2; cases h2
  exact h1
 ·obtain ⟨v, _, h2, h3⟩ := hget i y j z hy hz
  exact ⟨v, h2, h3⟩
 ·obtain ⟨j, hj, rfl⟩ := List.getElem_of_mem hv
  have hj' : j < ys.length * size := by simpa [vs] using hj
  obtain ⟨v', z, _, h2, h3, h4⟩ := hall j hj'
  rw [List.getElem?_eq_getElem hj] at h2; cases h2
  exact (h3.one h4).1
theorem elems_ok {c : Ctx} {H : Heap} {w : World} (hI : Inv base c H w) {x : AVal} {v : Value} (r : Rep c x v) {ys : List AVal} (h : elemsOf H x = some ys) (hx : ∀ s, x ≠ .p (.str s)) {size : Nat}
  (hs : ∀ y ∈ ys, y.cells.length = size ∧ ∀ z ∈ y.cells, z.isCell = true) : ∃ a cp vs, v = .slice a ys.length cp ∧ ys.length ≤ cp ∧ cp ≤ maxLen ∧ Elems c w ys size a vs := by
 have imm : ∀ (es : List PVal) (v : Value), PRep c.prot (.lst es) v → ys = es.map .p → ∃ a cp vs, v = .slice a ys.length cp ∧ ys.length ≤ cp ∧ cp ≤ maxLen ∧ Elems c w ys size a vs := by
  intro es v hp hy
  subst hy
  cases hp with
  | lst _ a len cap size' blk off vals hl hc hm ha hs' hpp hr hk =>
   obtain ⟨vs, hvs⟩ := Elems.mk' (c := c) (w := w) (ys := es.map .p) (size := size) (a := a) blk off (fun hne => ha (by intro h; subst h; simp at hne)) hs (fun i y j z hy hz => by
    rw [List.getElem?_map] at hy
    obtain ⟨e, he, rfl⟩ := Option.map_eq_some_iff.1 hy
    have hse : size = size' := by
     have h1 := (hs (.p e) (List.mem_map.2 ⟨e, List.mem_of_getElem? he, rfl⟩)).1
     have h2 := hs' e (List.mem_of_getElem? he)
     simp [AVal.cells] at h1
     omega
    subst hse
    simp only [AVal.cells, List.getElem?_map] at hz
    obtain ⟨u, hu, rfl⟩ := Option.map_eq_some_iff.1 hz
    have hj : j < size := by rw [← hs' e (List.mem_of_getElem? he)]; exact (List.getElem?_eq_some_iff.1 hu).1
    exact ⟨vals i j, hI.prot _ _ _ (hpp i j (List.getElem?_eq_some_iff.1 he).1 hj), .p _ _ (hr i e j u he hu)⟩)
   exact ⟨a, cap, vs, by simp [hl], by simp; omega, hm, hvs⟩
 cases x with
 | p y =>
  cases y <;> simp [elemsOf] at h
  ·exact absurd rfl (hx _)
  ·cases r with | p _ _ hp => exact imm _ v hp h.symm
 | tight es =>
  simp [elemsOf] at h
  cases r with | tight _ a n hn hp hz => exact imm _ _ hp h.symm
 | own k off len ver =>
  simp only [elemsOf] at h
  cases hk : H[k]? with
  | none => rw [hk] at h; cases h
  | some e =>
   rw [hk] at h
   simp only at h
   split at h
   case isFalse => cases h
   rename_i hc
   obtain ⟨hver, hle⟩ := hc
   cases h
   obtain ⟨l, hl, he, hv⟩ := own_val hI r hk hver
   obtain ⟨a, cp, rfl, p1, p2⟩ := hv.slice
   have hlen : ((e.elems.drop off).take len).length = len := by simp; omega
   rw [hlen]
   cases hp : l.place with
   | none =>
    have h0 := he.nowhere hp
    have h1 : (e.elems.drop off).take len = [] := by rw [h0]; simp
    obtain ⟨vs, hvs⟩ := Elems.mk' (c := c) (w := w) (ys := (e.elems.drop off).take len) (size := size) (a := a) 0 0 (fun hne => absurd h1 hne) hs (fun i y j z hy hz => by rw [h1] at hy; simp at hy)
    exact ⟨a, cp, vs, rfl, p1, p2, hvs⟩
   | some q =>
    obtain ⟨g, cap⟩ := q
    simp only [OwnVal, hp] at hv
    obtain ⟨a', cp', q1, q2, q3, q4, q5⟩ := hv
    cases q1
    obtain ⟨vs, hvs⟩ := Elems.mk' (c := c) (w := w) (ys := (e.elems.drop off).take len) (size := size) (a := a) g (off * size) (fun hne => by
     have hpos : 0 < len := by rw [← hlen]; exact List.length_pos_iff.2 hne
     obtain ⟨y, hy⟩ := List.exists_mem_of_ne_nil _ hne
     have h2 := (he.cells y (List.mem_of_mem_drop (List.mem_of_mem_take hy))).1
     rw [(q5 (.inl hpos)).1, he.size, ← h2, (hs y hy).1]) hs (fun i y j z hy hz => by
     have hy' := hy
     rw [List.getElem?_take] at hy
     split at hy
     case isFalse => cases hy
     rw [List.getElem?_drop] at hy
     have h2 := (he.cells y (List.mem_of_getElem? hy)).1
     have h3 := (hs y (List.mem_of_getElem? hy')).1
     obtain ⟨v, r1, r2⟩ := hI.row hk hl hp (off + i) j y z hy hz
     exact ⟨v, by rw [← h3, h2, ← Nat.add_mul]; exact r1, r2⟩)
    exact ⟨a, cp, vs, rfl, p1, p2, hvs⟩
 | _ => simp [elemsOf] at h
end Go.Abs
namespace Go.Abs
variable {P : Program} {base : Prot}
theorem cellsAdd (blk off j : Nat) : (⟨blk, off, none⟩ : Addr).add j = ⟨blk, off + j, none⟩ := Addr.add_lit blk off j
theorem run_append_none {t ty e : TypeId} {d : TypeDesc} (ht : P.underlying t = some (.slice e)) (hd : P.underlying e = some d) (w : World) (b a : Option Addr) (n cap m : Nat) (hn : n ≤ cap) :
  (Builtin.append_ #[t, t] ty #[.slice b n cap, .slice a 0 m]).run P w = .ok (.slice b n cap) w := by
 have f : ∀ x : Option Addr, (Builtin.firstCells (sizeT P e) 0 (.slice x 0 m)).run P w = .ok #[] w := fun x => by
  cases x <;> simp [Builtin.firstCells, loadCells, loadCellsFrom]
 cases b with
 | none => simp [Builtin.append_, run_underlying ht, run_sizeT hd, Builtin.lenOf, hn, f]
 | some b => simp [Builtin.append_, run_underlying ht, run_sizeT hd, Builtin.lenOf, hn, f, storeCells]
theorem run_append_room' {t ty e e' : TypeId} {i : TypeInfo} (ht : P.underlying t = some (.slice e)) (hi : P.info? e = some i) (w : World)
  (g sLen sCap : Nat) (cur : Array Value) (hg : w.heap[g]? = some (.cells cur e' (0, 0)))
  (a : Addr) (m c : Nat) (news : List Value) (hl : news.length = m * i.size) (hnews : ∀ (j : Nat) u, news[j]? = some u → w.cell? (a.add j) = some u) (h1 : ∀ u ∈ news, u.oneCell' = true)
  (hroom : sLen + m ≤ sCap) (hfit : sLen * i.size + news.length ≤ cur.size) :
  (Builtin.append_ #[t, t] ty #[.slice (some ⟨g, 0, none⟩) sLen sCap, .slice (some a) m c]).run P w =
   .ok (.slice (some ⟨g, 0, none⟩) (sLen + m) sCap) (w.setRow g (cur.toList.take (sLen * i.size) ++ news ++ cur.toList.drop (sLen * i.size + news.length)).toArray) := by
 have hf := run_firstCells_some (P := P) w i.size m a m c news hl hnews
 have hst := run_storeCells_at P g (sLen * i.size) e' news 0 cur w hg (by simpa using hfit) h1
 simp only [Nat.add_zero] at hst
 simp [Builtin.append_, run_underlying ht, sizeOf, typeInfo, hi, Builtin.lenOf, hroom, hf, Addr.add_lit, hst]
theorem run_append_moves {t ty e : TypeId} {i : TypeInfo} {z : Value} (ht : P.underlying t = some (.slice e)) (hi : P.info? e = some i) (hz : i.zero = some z) (w : World) (b : Option Addr) (sLen sCap : Nat) (olds : List Value)
  (hlo : olds.length = sLen * i.size) (hb : b = none → sLen = 0 ∧ sCap = 0) (holds : ∀ x, b = some x → ∀ (j : Nat) v, olds[j]? = some v → w.cell? (x.add j) = some v) (a : Addr) (n c : Nat) (news : List Value) (hl : news.length = n * i.size)
  (hnews : ∀ (j : Nat) v, news[j]? = some v → w.cell? (a.add j) = some v) (hn : 0 < n) (hg : sCap < sLen + n) (hm : sLen + n ≤ maxLen) (hbytes : (sLen + n) * i.bytes ≤ 140737488355328) :
  (Builtin.append_ #[t, t] ty #[.slice b sLen sCap, .slice (some a) n c]).run P w =
   .ok (.slice (some ⟨w.heap.size, 0, none⟩) (sLen + n) (grownCap w (sLen + n) sCap e))
    (w.drew.alloc (.cells (olds.toArray ++ news.toArray ++ Builtin.zeroCells z.cells (grownCap w (sLen + n) sCap e - (sLen + n))) e)) := by
 have h63 : ((sLen + n : Nat) : Int) ≤ 9223372036854775807 := by unfold maxLen at hm; omega
 cases b with
 | none =>
  obtain ⟨rfl, rfl⟩ := hb rfl
  have h0 : olds = [] := List.eq_nil_of_length_eq_zero (by simpa using hlo)
  subst h0
  have := run_append_nil (P := P) w t ty e i z ht hi hz a n c news hl hnews hn (by omega) (by simp only [Nat.zero_add] at hbytes; omega)
  simp only [Nat.zero_add, Array.empty_append] at this ⊢
  simpa using this
 | some b => exact run_append_grow (P := P) w t ty e i z ht hi hz b sLen sCap olds hlo (holds b rfl) a n c news hl hnews hg h63 (growslice_fits hg hbytes)
structure AppArg (P : Program) (c : Ctx) (w : World) (e : TypeId) (ts : Array TypeId) (ty : TypeId) (vy : Value) (ys : List AVal) (news : List Value) : Prop where
 len : news.length = ys.length * sizeT P e
 rep : ∀ (i : Nat) y (j : Nat) z, ys[i]? = some y → y.cells[j]? = some z → ∃ v, news[i * sizeT P e + j]? = some v ∧ Rep c z v
 one : ∀ v ∈ news, v.oneCell' = true
 none : ys = [] → ∀ (b : Option Addr) n cap, n ≤ cap → (Builtin.append_ ts ty #[.slice b n cap, vy]).run P w = .ok (.slice b n cap) w
 room : ys ≠ [] → ∀ (i : TypeInfo) g sLen sCap (cur : Array Value) e', P.info? e = some i → sizeT P e = i.size → w.heap[g]? = some (.cells cur e' (0, 0)) → sLen + ys.length ≤ sCap → sLen * i.size + news.length ≤ cur.size →
  (Builtin.append_ ts ty #[.slice (some ⟨g, 0, Option.none⟩) sLen sCap, vy]).run P w = .ok (.slice (some ⟨g, 0, Option.none⟩) (sLen + ys.length) sCap) (w.setRow g (cur.toList.take (sLen * i.size) ++ news ++ cur.toList.drop (sLen * i.size + news.length)).toArray)
 moves : ys ≠ [] → ∀ (i : TypeInfo) z (b : Option Addr) sLen sCap (olds : List Value), P.info? e = some i → sizeT P e = i.size → i.zero = some z → olds.length = sLen * i.size → (b = Option.none → sLen = 0 ∧ sCap = 0) → (∀ x, b = some x → ∀ (j : Nat) v, olds[j]? = some v → w.cell? (x.add j) = some v) →
  sCap < sLen + ys.length → sLen + ys.length ≤ maxLen → (sLen + ys.length) * i.bytes ≤ 140737488355328 →
  (Builtin.append_ ts ty #[.slice b sLen sCap, vy]).run P w =
   .ok (.slice (some ⟨w.heap.size, 0, Option.none⟩) (sLen + ys.length) (grownCap w (sLen + ys.length) sCap e))
    (w.drew.alloc (.cells (olds.toArray ++ news.toArray ++ Builtin.zeroCells z.cells (grownCap w (sLen + ys.length) sCap e - (sLen + ys.length))) e))
theorem app_core {c : Ctx} {H : Heap} {w : World} (hI : Inv base c H w) {e : TypeId} (hzz : (zeroT P e).cells.length = sizeT P e) (hzk : (zeroT P e).cells.all AVal.isCell = true) {ax : AVal} {vx vy : Value}
  (rx : Rep c ax vx) {ts : Array TypeId} {ty : TypeId} {ys : List AVal} {news : List Value} (hel : AppArg P c w e ts ty vy ys news) {x : AVal} {H' : Heap} (h : appV (sizeT P e) (bytesT P e) e ax ys H = some (x, H')) :
  Done P base (Builtin.append_ ts ty #[vx, vy]) c w x H' := by
  unfold appV at h
  split at h
  case isFalse => cases h
  rename_i hc
  obtain ⟨hys, hpos⟩ := hc
  have hys' : ∀ y ∈ ys, y.cells.length = sizeT P e ∧ ∀ z ∈ y.cells, z.isCell = true := fun y hy => by
   have := List.all_eq_true.1 hys y hy
   simp only [Bool.and_eq_true, beq_iff_eq] at this
   exact ⟨this.1, all_isCell this.2⟩
  obtain ⟨i, z, hi, hz, hze⟩ := zeroT_ok hzk
  obtain ⟨d, hd⟩ := sizeT_some (P := P) (t := e) (by omega)
  have hsz : sizeT P e = i.size := by simp [sizeT, hd, hi]
  have hbt : bytesT P e = i.bytes := by simp [bytesT, hi]
  rw [hze] at hzz hzk
  have rz := (constA_ok c z).cells (all_isCell hzk)
  have hzs : z.cells.size = sizeT P e := by have := rz.1.1; simp at this; omega
  have ysne : ∀ n : Nat, ys.length = n + 1 → ys ≠ [] := fun n h h0 => by subst h0; simp at h
  split at h
  · -- an own array
   rename_i k off len ver
   cases hk : H[k]? with
   | none => rw [hk] at h; cases h
   | some en =>
    rw [hk] at h
    simp only at h
    split at h
    case isFalse =>
     split at h
     case isFalse =>
      split at h
      case isFalse => cases h
      rename_i hc
      obtain ⟨hver, hy0⟩ := hc
      have hy0 : ys = [] := List.eq_nil_of_length_eq_zero hy0
      cases h
      obtain ⟨l, hl, he, hv⟩ := own_val hI rx hk hver
      obtain ⟨b, cq, rfl, q1, q2⟩ := hv.slice
      exact .still hI (hel.none hy0 b _ _ q1) rx
     rename_i hc
     obtain ⟨hver, hes, rfl, hfz, hle, hne⟩ := hc
     have hne : ys ≠ [] := List.length_pos_iff.1 hne
     cases h
     obtain ⟨l, hl, he, hv⟩ := own_val hI rx hk hver
     unfold OwnVal at hv
     cases hp : l.place with
     | none =>
      have h0 := he.nowhere hp
      rw [h0] at hle
      simp at hle
      exact absurd hle.2 hne
     | some q =>
      obtain ⟨g, cap⟩ := q
      simp only [hp] at hv
      obtain ⟨b, cq, rfl, q2, q3, q4, q5⟩ := hv
      obtain ⟨e1, e2⟩ := q5 (.inr trivial)
      simp only [Nat.zero_mul, Nat.sub_zero] at e1 e2
      subst e1
      have e3 := e2.symm
      subst e3
      obtain ⟨cur, ty', a1, a2, a3, a4, a5, a6⟩ := he.there g cap hp
      have hroom : len + ys.length ≤ cap := by omega
      have hnl : news.length = ys.length * i.size := by rw [hel.len, hsz]
      have hfit : len * i.size + news.length ≤ cur.size := by rw [hnl, a2, hes, ← hsz, ← Nat.add_mul]; exact Nat.mul_le_mul_right _ hroom
      have hrun := hel.room hne i g len cap cur ty' hi hsz a1 hroom hfit
      have hbl : len * i.size + news.length ≤ cur.toList.length := by simpa using hfit
      have esz : en.size = i.size := by rw [hes, hsz]
      have hlen' : (en.elems.take len ++ ys ++ en.elems.drop (len + ys.length)).length = en.elems.length := by simp; omega
      obtain ⟨c', hs, hI'⟩ := hI.setCells hk hl hp hfz a1 a2 a3 (cur.toList.take (len * i.size) ++ news ++ cur.toList.drop (len * i.size + news.length)).toArray
       (by rw [List.size_toArray, splice_length _ _ _ hbl]; rfl) (en.elems.take len ++ ys ++ en.elems.drop (len + ys.length)) hlen' (fun y hy => by
        rcases List.mem_append.1 hy with h1 | h1
        ·rcases List.mem_append.1 h1 with h2 | h2
         ·exact he.cells y (List.mem_of_mem_take h2)
         ·rw [hes]; exact hys' y h2
        ·exact he.cells y (List.mem_of_mem_drop h1)) (fun i' y j u hy hu => by
        have hsp := splice_get en.elems ys len hle i'
        rw [hsp] at hy
        rw [List.getElem?_toArray, splice_get _ _ _ hbl, hnl, esz]
        by_cases hin : len ≤ i' ∧ i' < len + ys.length
        ·rw [if_pos hin] at hy
         obtain ⟨v, r1, r2⟩ := hel.rep (i' - len) y j u hy hu
         rw [hsz] at r1
         have hj : j < i.size := by rw [← hsz, ← (hys' y (List.mem_of_getElem? hy)).1]; exact (List.getElem?_eq_some_iff.1 hu).1
         have hlt : (i' - len) * i.size + j < ys.length * i.size := idx_lt (by omega) hj
         have hidx : i' * i.size + j = len * i.size + ((i' - len) * i.size + j) := by
          have : i' = len + (i' - len) := by omega
          conv => lhs; rw [this, Nat.add_mul]
          omega
         refine ⟨v, ?_, r2⟩
         rw [hidx, if_pos (by omega), Nat.add_sub_cancel_left]
         exact r1
        ·rw [if_neg hin] at hy
         obtain ⟨v, r1, r2⟩ := a5 i' y j u hy hu
         have hj : j < i.size := by rw [← esz, ← (he.cells y (List.mem_of_getElem? hy)).1]; exact (List.getElem?_eq_some_iff.1 hu).1
         refine ⟨v, ?_, r2⟩
         rw [if_neg (by
          intro hcon
          by_cases h1 : i' < len
          ·have := idx_lt h1 hj; omega
          ·have h2 : (len + ys.length) * i.size ≤ i' * i.size := Nat.mul_le_mul_right _ (by omega)
           rw [Nat.add_mul] at h2
           omega)]
         rw [esz] at r1
         simpa using r1)
      refine ⟨_, _, c', hrun, hs, hI', ?_⟩
      have hl' := hs.locs k l hl
      obtain ⟨l', hl1, hl2, hl3⟩ := hl'
      refine .own _ _ _ _ l' _ hl1 (by rw [he.ver, hver] at hl2; exact hl2) (fun hv' => ?_) ⟨_, _, _, rfl⟩
      have hle2 := hl3 (by rw [← hv', he.ver, hver])
      subst hle2
      unfold OwnVal
      simp only [hp]
      exact ⟨_, _, rfl, hroom, a3, by omega, fun _ => by simp⟩
    rename_i hc
    obtain ⟨hver, hes, hty, rfl, rfl, hb, hmx⟩ := hc
    cases h
    obtain ⟨l, hl, he, hv⟩ := own_val hI rx hk hver
    have hlver : l.ver = ver := by rw [he.ver, hver]
    have cellsAll : ∀ y ∈ en.elems ++ ys, y.cells.length = en.size ∧ ∀ z ∈ y.cells, z.isCell = true := fun y hy => by
     rcases List.mem_append.1 hy with h | h
     ·exact he.cells y h
     ·rw [hes]; exact hys' y h
    by_cases hne : ys = []
    ·subst hne
     obtain ⟨b, cq, rfl, q1, q2⟩ := hv.slice
     have hrun := hel.none rfl b en.elems.length cq q1
     obtain ⟨hs, hI'⟩ := hI.replace hl (w' := w) ⟨sizeT P e, ver + 1, en.froz, en.elems ++ [], e⟩ ⟨ver + 1, l.size, l.place⟩ rfl rfl rfl (Nat.le_refl _) (fun _ _ _ => rfl) (by simp [hlver]) (fun h => by simp [hlver] at h)
      (fun g cap h => .inl ⟨cap, h⟩) hI.prot ⟨rfl, by rw [he.size, hes], hpos, by rw [← hes]; simpa using he.cells, fun h => by simpa using he.nowhere h, fun g cap cur2 ty2 fr2 h hh2 => by rw [← hty]; exact he.typed g cap cur2 ty2 fr2 h hh2, fun g cap h => by
       obtain ⟨cur, ty', a1, a2, a3, a4, a5, a6⟩ := he.there g cap h
       rw [← hes]
       exact ⟨cur, ty', a1, a2, a3, by simpa using a4, by simpa using a5, by simpa using a6⟩⟩
     refine ⟨_, _, _, hrun, hs, hI', ?_⟩
     refine .own _ _ _ _ ⟨ver + 1, l.size, l.place⟩ _ (by simp [(List.getElem?_eq_some_iff.1 hl).1]) (Nat.le_refl _) (fun _ => ?_) ⟨_, _, _, rfl⟩
     simpa [OwnVal] using hv
    ·have hn : 0 < ys.length := List.length_pos_iff.2 hne
     have hnl : news.length = ys.length * i.size := by rw [hel.len, hsz]
     -- where the array lies
     have moves : ∀ (b : Option Addr) (cq : Nat) (olds : List Value), (b = none → en.elems.length = 0 ∧ cq = 0) → olds.length = en.elems.length * i.size → (∀ x, b = some x → ∀ (j : Nat) v, olds[j]? = some v → w.cell? (x.add j) = some v) →
       (∀ (i' : Nat) y (j : Nat) u, en.elems[i']? = some y → y.cells[j]? = some u → ∃ v, olds[i' * i.size + j]? = some v ∧ Rep c u v) → cq < en.elems.length + ys.length →
       Done P base (Builtin.append_ ts ty #[.slice b en.elems.length cq, vy]) c w (.own k 0 (en.elems.length + ys.length) (ver + 1)) (H.set k ⟨sizeT P e, ver + 1, en.froz, en.elems ++ ys, e⟩) := by
      intro b cq olds hb0 hol hoc hor hgr
      have hrun := hel.moves hne i z b en.elems.length cq olds hi hsz hz hol hb0 hoc hgr hmx (by rw [← hbt]; exact hb)
      generalize hcap : grownCap w (en.elems.length + ys.length) cq e = ncap at hrun
      have hge : en.elems.length + ys.length ≤ ncap := by rw [← hcap]; exact grownCap_ge w _ _ _
      have hncm : ncap ≤ maxLen := by rw [← hcap]; exact grownCap_le_maxLen w _ _ _ hmx
      have hgw := (Grew.drew w).alloc (.cells (olds.toArray ++ news.toArray ++ Builtin.zeroCells z.cells (ncap - (en.elems.length + ys.length))) e)
      have hheap : (w.drew.alloc (.cells (olds.toArray ++ news.toArray ++ Builtin.zeroCells z.cells (ncap - (en.elems.length + ys.length))) e)).heap[w.heap.size]? = some (.cells (olds.toArray ++ news.toArray ++ Builtin.zeroCells z.cells (ncap - (en.elems.length + ys.length))) e (0, 0)) := heap_alloc_new w.drew _
      obtain ⟨hs, hI'⟩ := hI.replace hl ⟨sizeT P e, ver + 1, en.froz, en.elems ++ ys, e⟩ ⟨ver + 1, l.size, some (w.heap.size, ncap)⟩ hgw.os hgw.tape hgw.output hgw.size (fun b hb _ => hgw.blk b hb) (by simp [hlver]) (fun h => by simp [hlver] at h)
       (fun g cap h => by simp at h; exact .inr (by omega)) (fun b o v hv => by rw [cell_of_heap (hgw.blk b (hI.prot_lt hv))]; exact hI.prot b o v hv)
       ⟨rfl, by rw [he.size, hes], hpos, by rw [← hes]; exact cellsAll, by simp, fun g cap cur2 ty2 fr2 h hh2 => by
        simp only [Option.some.injEq, Prod.mk.injEq] at h
        obtain ⟨rfl, rfl⟩ := h
        rw [hheap] at hh2
        cases hh2; rfl, fun g cap h => by
        simp only [Option.some.injEq, Prod.mk.injEq] at h
        obtain ⟨rfl, rfl⟩ := h
        refine ⟨_, e, hheap, ?_, hncm, by simpa using hge, fun i' y j u hy hu => ?_, fun o v hv => by have := hI.prot_lt hv; omega⟩
        ·simp only [Array.size_append, List.size_toArray, size_zeroCells, hol, hnl, hzs, ← hsz, ← Nat.add_mul]
         congr 1; omega
        ·dsimp only at hy ⊢
         rw [hsz]
         by_cases hi' : i' < en.elems.length
         ·rw [List.getElem?_append_left hi'] at hy
          obtain ⟨v, r1, r2⟩ := hor i' y j u hy hu
          refine ⟨v, ?_, r2⟩
          have hlt := (List.getElem?_eq_some_iff.1 r1).1
          rw [Array.getElem?_append_left (by simp; omega), Array.getElem?_append_left (by simpa using hlt)]
          simpa using r1
         ·rw [List.getElem?_append_right (by omega)] at hy
          obtain ⟨v, r1, r2⟩ := hel.rep (i' - en.elems.length) y j u hy hu
          refine ⟨v, ?_, r2⟩
          rw [hsz] at r1
          have hlt := (List.getElem?_eq_some_iff.1 r1).1
          have hidx : i' * i.size + j = olds.length + ((i' - en.elems.length) * i.size + j) := by
           rw [hol]
           have : i' = en.elems.length + (i' - en.elems.length) := by omega
           conv => lhs; rw [this, Nat.add_mul]
           omega
          rw [hidx, Array.getElem?_append_left (by simp; omega), Array.getElem?_append_right (by simp)]
          simp only [List.size_toArray, Nat.add_sub_cancel_left]
          simpa using r1⟩
      refine ⟨_, _, _, hrun, hs, hI', ?_⟩
      refine .own _ _ _ _ ⟨ver + 1, l.size, some (w.heap.size, ncap)⟩ _ (by simp [(List.getElem?_eq_some_iff.1 hl).1]) (Nat.le_refl _) (fun _ => ?_) ⟨_, _, _, rfl⟩
      exact ⟨_, _, rfl, hge, hncm, by omega, fun _ => by simp⟩
     unfold OwnVal at hv
     cases hp : l.place with
     | none =>
      simp only [hp] at hv
      obtain ⟨b, rfl, _, h0, _⟩ := hv
      have h0' : en.elems = [] := he.nowhere hp
      rw [h0'] at moves ⊢
      exact moves b 0 [] (fun _ => ⟨rfl, rfl⟩) (by simp) (fun _ _ j v h => by simp at h) (fun i' y j u h => by simp at h) (by simpa using hn)
     | some q =>
      obtain ⟨g, cap⟩ := q
      simp only [hp] at hv
      obtain ⟨b, cq, rfl, q2, q3, q4, q5⟩ := hv
      obtain ⟨e1, e2⟩ := q5 (.inr trivial)
      simp only [Nat.zero_mul, Nat.sub_zero] at e1 e2
      subst e1
      have e3 := e2.symm
      subst e3
      obtain ⟨cur, ty', a1, a2, a3, a4, a5, a6⟩ := he.there g cap hp
      by_cases hroom : en.elems.length + ys.length ≤ cap
      · -- in place
       have hfit : en.elems.length * i.size + news.length ≤ cur.size := by rw [hnl, a2, hes, ← hsz, ← Nat.add_mul]; exact Nat.mul_le_mul_right _ hroom
       have hrun := hel.room hne i g en.elems.length cap cur ty' hi hsz a1 hroom hfit
       have hbl : en.elems.length * i.size + news.length ≤ cur.toList.length := by simpa using hfit
       have hslen := splice_length cur.toList news (en.elems.length * i.size) hbl
       have hheap := setRow_heap w g cur (cur.toList.take (en.elems.length * i.size) ++ news ++ cur.toList.drop (en.elems.length * i.size + news.length)).toArray ty' (0, 0) a1
       have esz : en.size = i.size := by rw [hes, hsz]
       obtain ⟨hs, hI'⟩ := hI.replace hl (w' := w.setRow g (cur.toList.take (en.elems.length * i.size) ++ news ++ cur.toList.drop (en.elems.length * i.size + news.length)).toArray) ⟨sizeT P e, ver + 1, en.froz, en.elems ++ ys, e⟩ ⟨ver + 1, l.size, some (g, cap)⟩ rfl rfl rfl
        (by rw [Below.of_setRow]; exact Nat.le_refl _) (fun b hb hn => setRow_other w g b _ (fun h => hn cap (by rw [hp, h]))) (by simp [hlver]) (fun h => by simp [hlver] at h)
        (fun g' cap' h => .inl ⟨cap, by simp at h; rw [hp, h.1]⟩) (fun b o v hv => by
         by_cases hbg : b = g
         ·subst hbg
          have hlim := (a6 o v hv).2
          rw [cell_setRow_same w b o cur _ ty' (0, 0) a1, List.getElem?_toArray, splice_get _ _ _ hbl, if_neg (by rw [esz] at hlim; omega)]
          have := hI.prot b o v hv
          rw [cell_of_row w b o cur ty' (0, 0) a1] at this
          simpa using this
         ·rw [cell_setRow_other w g _ _ hbg]; exact hI.prot b o v hv)
        ⟨rfl, by rw [he.size, hes], hpos, by rw [← hes]; exact cellsAll, by simp, fun g' cap' cur2 ty2 fr2 h hh2 => by
         simp only [Option.some.injEq, Prod.mk.injEq] at h
         obtain ⟨rfl, rfl⟩ := h
         rw [hheap] at hh2
         cases hh2
         rw [← hty]
         exact he.typed g cap cur ty' (0, 0) hp a1, fun g' cap' h => by
         simp only [Option.some.injEq, Prod.mk.injEq] at h
         obtain ⟨rfl, rfl⟩ := h
         refine ⟨_, ty', hheap, ?_, a3, by simpa using hroom, fun i' y j u hy hu => ?_, fun o v hv => ?_⟩
         ·rw [List.size_toArray, hslen, ← hes]; simpa using a2
         ·dsimp only at hy ⊢
          rw [hsz]
          rw [List.getElem?_toArray, splice_get _ _ _ hbl]
          have hj : j < i.size := by rw [← esz, ← (cellsAll y (List.mem_of_getElem? hy)).1]; exact (List.getElem?_eq_some_iff.1 hu).1
          by_cases hi' : i' < en.elems.length
          ·rw [List.getElem?_append_left hi'] at hy
           obtain ⟨v, r1, r2⟩ := a5 i' y j u hy hu
           have := idx_lt hi' hj
           refine ⟨v, ?_, r2⟩
           rw [if_neg (by omega), ← esz]
           simpa using r1
          ·rw [List.getElem?_append_right (by omega)] at hy
           obtain ⟨v, r1, r2⟩ := hel.rep (i' - en.elems.length) y j u hy hu
           refine ⟨v, ?_, r2⟩
           have hlt := (List.getElem?_eq_some_iff.1 r1).1
           rw [hsz] at r1 hlt
           have hidx : i' * i.size + j = en.elems.length * i.size + ((i' - en.elems.length) * i.size + j) := by
            have : i' = en.elems.length + (i' - en.elems.length) := by omega
            conv => lhs; rw [this, Nat.add_mul]
            omega
           rw [hidx, if_pos (by omega), Nat.add_sub_cancel_left]
           exact r1
         ·obtain ⟨h1, h2⟩ := a6 o v hv
          refine ⟨h1, ?_⟩
          simp only [List.length_append, Nat.add_mul]
          rw [← hes]; omega⟩
       refine ⟨_, _, _, hrun, hs, hI', ?_⟩
       refine .own _ _ _ _ ⟨ver + 1, l.size, some (g, cap)⟩ _ (by simp [(List.getElem?_eq_some_iff.1 hl).1]) (Nat.le_refl _) (fun _ => ?_) ⟨_, _, _, rfl⟩
       exact ⟨_, _, rfl, hroom, a3, by omega, fun _ => by simp⟩
      · -- it moves
       have hne0 : en.elems.length * i.size ≤ cur.size := by rw [a2, hes, ← hsz]; exact Nat.mul_le_mul_right _ a4
       refine moves (some ⟨g, 0, none⟩) cap (cur.toList.take (en.elems.length * i.size)) (fun h => by cases h) (by simp; omega) (fun x hx j v hj => ?_) (fun i' y j u hy hu => ?_) (by omega)
       ·cases hx
        rw [cellsAdd, Nat.zero_add, cell_of_row w g j cur ty' (0, 0) a1]
        rw [List.getElem?_take] at hj
        split at hj
        ·simpa using hj
        ·cases hj
       ·obtain ⟨v, r1, r2⟩ := a5 i' y j u hy hu
        have hj : j < i.size := by rw [← hsz, ← hes, ← (he.cells y (List.mem_of_getElem? hy)).1]; exact (List.getElem?_eq_some_iff.1 hu).1
        have := idx_lt (List.getElem?_eq_some_iff.1 hy).1 hj
        refine ⟨v, ?_, r2⟩
        rw [List.getElem?_take, if_pos this]
        rw [hes, hsz] at r1
        simpa using r1
  · -- a slice without room
   rename_i es
   split at h
   case isFalse => cases h
   rename_i hc
   obtain ⟨hemp, hes, hb, hmx⟩ := hc
   cases h
   cases rx with
   | tight _ b n hn0 hp hz0 =>
    subst hn0
    have hesz : ∀ e' ∈ es, e'.cells.length = sizeT P e := fun e' he' => by simpa using List.all_eq_true.1 hes e' he'
    by_cases hne : ys = []
    ·subst hne
     have he0 : es = [] := by
      have : es.isEmpty = true := by simpa using hemp
      simpa using this
     subst he0
     have hrun := hel.none rfl b 0 0 (Nat.le_refl _)
     obtain ⟨hs, hI'⟩ := hI.allocNil (sizeT P e) e hpos
     refine ⟨_, _, _, hrun, hs, by simpa using hI', ?_⟩
     refine .own _ _ _ _ ⟨0, sizeT P e, none⟩ _ (by simp [hI.len]) (Nat.le_refl _) (fun _ => ?_) ⟨_, _, _, rfl⟩
     exact ⟨b, rfl, rfl, rfl, hz0 rfl⟩
    ·have hn : 0 < ys.length := List.length_pos_iff.2 hne
     have hnl : news.length = ys.length * i.size := by rw [hel.len, hsz]
     have hkk : ∀ e' ∈ es, ∀ z ∈ e'.cells, z.isCell = true := by cases hp; assumption
     obtain ⟨b', cp', olds, q1, q2, q3, hold⟩ := elems_ok (H := H) hI (x := .p (.lst es)) (.p _ _ hp) (ys := es.map .p) rfl (fun s h => by cases h) (size := sizeT P e) (fun y hy => by
      obtain ⟨e', he', rfl⟩ := List.mem_map.1 hy
      refine ⟨by simpa [AVal.cells] using hesz e' he', fun z hz => ?_⟩
      simp only [AVal.cells] at hz
      obtain ⟨u, hu, rfl⟩ := List.mem_map.1 hz
      exact hkk e' he' u hu)
     simp only [Value.slice.injEq, List.length_map] at q1
     obtain ⟨rfl, _, rfl⟩ := q1
     have hol : olds.length = es.length * i.size := by rw [hold.len, hsz]; simp
     have hsome : b = none → es.length = 0 := fun hb0 => by
      by_cases h0 : es = []
      ·rw [h0]; rfl
      ·obtain ⟨_, _, q4, _⟩ := hold.addr (by simpa using h0)
       rw [hb0] at q4; cases q4
     have hrun := hel.moves hne i z b es.length es.length olds hi hsz hz hol (fun hb0 => ⟨hsome hb0, hsome hb0⟩) (fun x hx j v hj => by
       have h0 : es.map AVal.p ≠ [] := by
        intro h0
        have : es = [] := by simpa using h0
        subst this
        have : olds = [] := List.eq_nil_of_length_eq_zero (by simpa using hol)
        subst this
        simp at hj
       obtain ⟨blk', off2, q4, q5⟩ := hold.addr h0
       rw [hx] at q4; cases q4
       rw [cellsAdd]; exact q5 j v hj) (by omega) hmx (by rw [← hbt]; exact hb)
     generalize hcap : grownCap w (es.length + ys.length) es.length e = ncap at hrun
     have hge : es.length + ys.length ≤ ncap := by rw [← hcap]; exact grownCap_ge w _ _ _
     have hncm : ncap ≤ maxLen := by rw [← hcap]; exact grownCap_le_maxLen w _ _ _ hmx
     obtain ⟨hs, hI'⟩ := hI.alloc (Grew.drew w) rfl (sizeT P e) ncap (es.map .p ++ ys) (olds.toArray ++ news.toArray ++ Builtin.zeroCells z.cells (ncap - (es.length + ys.length))) e hpos
      (by
       simp only [Array.size_append, List.size_toArray, size_zeroCells, hol, hnl, hzs, ← hsz, ← Nat.add_mul]
       congr 1; omega) hncm (by simpa using hge) (fun y hy => by
       rcases List.mem_append.1 hy with h | h
       ·obtain ⟨e', he', rfl⟩ := List.mem_map.1 h
        refine ⟨by simpa [AVal.cells] using hesz e' he', fun z hz => ?_⟩
        simp only [AVal.cells] at hz
        obtain ⟨u, hu, rfl⟩ := List.mem_map.1 hz
        exact hkk e' he' u hu
       ·exact hys' y h) (fun i' y j u hy hu => by
       rw [hsz]
       by_cases hi' : i' < es.length
       ·rw [List.getElem?_append_left (by simpa using hi')] at hy
        obtain ⟨v, r1, r2⟩ := hold.rep i' y j u hy hu
        rw [hsz] at r1
        refine ⟨v, ?_, r2⟩
        have hlt := (List.getElem?_eq_some_iff.1 r1).1
        rw [Array.getElem?_append_left (by simp; omega), Array.getElem?_append_left (by simpa using hlt)]
        simpa using r1
       ·rw [List.getElem?_append_right (by simp; omega)] at hy
        obtain ⟨v, r1, r2⟩ := hel.rep (i' - es.length) y j u (by simpa using hy) hu
        rw [hsz] at r1
        refine ⟨v, ?_, r2⟩
        have hlt := (List.getElem?_eq_some_iff.1 r1).1
        have hidx : i' * i.size + j = olds.length + ((i' - es.length) * i.size + j) := by
         rw [hol]
         have : i' = es.length + (i' - es.length) := by omega
         conv => lhs; rw [this, Nat.add_mul]
         omega
        rw [hidx, Array.getElem?_append_left (by simp; omega), Array.getElem?_append_right (by simp)]
        simp only [List.size_toArray, Nat.add_sub_cancel_left]
        simpa using r1)
     refine ⟨_, _, _, hrun, hs, hI', ?_⟩
     refine .own _ _ _ _ ⟨0, sizeT P e, some (w.heap.size, ncap)⟩ _ (by simp [hI.len]) (Nat.le_refl _) (fun _ => ?_) ⟨_, _, _, rfl⟩
     exact ⟨_, _, rfl, hge, hncm, by omega, fun _ => by simp⟩
  ·cases h
theorem app_ok {T : Tab} {c : Ctx} {H : Heap} {w : World} (hI : Inv base c H w) {fr : AFr} {t e : TypeId} (ht : P.underlying t = some (.slice e)) (hzz : (zeroT P e).cells.length = sizeT P e) (hzk : (zeroT P e).cells.all AVal.isCell = true) {lx ly : LOpd} {vx vy : Value}
  (rx : Rep c (opd fr lx) vx) (ry : Rep c (opd fr ly) vy) {ty : TypeId} {x : AVal} {H' : Heap} (h : evalOp T (.app (sizeT P e) (bytesT P e) e lx ly) fr H = some (x, H')) :
  Done P base (Builtin.append_ #[t, t] ty #[vx, vy]) c w x H' := by
 simp only [evalOp] at h
 cases hy0 : sliceOf H (opd fr ly) with
 | none => rw [hy0] at h; cases h
 | some ys =>
  rw [hy0] at h
  obtain ⟨hy, hstr⟩ := sliceOf_some hy0
  simp only at h
  have h' := h
  unfold appV at h'
  split at h'
  case isFalse => cases h'
  rename_i hc
  obtain ⟨hys, hpos⟩ := hc
  have hys' : ∀ y ∈ ys, y.cells.length = sizeT P e ∧ ∀ z ∈ y.cells, z.isCell = true := fun y hy => by
   have := List.all_eq_true.1 hys y hy
   simp only [Bool.and_eq_true, beq_iff_eq] at this
   exact ⟨this.1, all_isCell this.2⟩
  obtain ⟨d, hd⟩ := sizeT_some (P := P) (t := e) (by omega)
  obtain ⟨a, cp, news, rfl, hcp, hcpm, hel⟩ := elems_ok hI ry hy hstr hys'
  refine app_core hI hzz hzk rx (news := news) ⟨hel.len, hel.rep, hel.one, fun h0 b n cap hn => ?_, fun hne i g sLen sCap cur e' hi hsz hg hroom hfit => ?_, fun hne i z b sLen sCap olds hi hsz hz hol hb hoc hgr hmx hbt => ?_⟩ h
  ·subst h0
   exact run_append_none (P := P) (ty := ty) ht hd w b a n cap cp hn
  ·obtain ⟨blk, off', rfl, hcell⟩ := hel.addr hne
   exact run_append_room' (P := P) (ty := ty) ht hi w g sLen sCap cur hg ⟨blk, off', none⟩ ys.length cp news (by rw [hel.len, hsz]) (fun j v hj => by rw [cellsAdd]; exact hcell j v hj) hel.one hroom hfit
  ·obtain ⟨blk, off', rfl, hcell⟩ := hel.addr hne
   exact run_append_moves (P := P) (ty := ty) ht hi hz w b sLen sCap olds hol hb hoc ⟨blk, off', none⟩ ys.length cp news (by rw [hel.len, hsz]) (fun j v hj => by rw [cellsAdd]; exact hcell j v hj) (List.length_pos_iff.2 hne) hgr hmx hbt
theorem run_firstCells_str (w : World) (size : Nat) (s : ByteArray) : (Builtin.firstCells size s.size (.string s)).run P w = .ok (s.data.toList.map fun b => Value.int .u8 b.toNat).toArray w := by
 simp [Builtin.firstCells]
 apply Array.ext'
 simp
theorem appS_ok {T : Tab} {c : Ctx} {H : Heap} {w : World} (hI : Inv base c H w) {fr : AFr} {t u e : TypeId} (ht : P.underlying t = some (.slice e)) (hu : P.underlying u = some .string) (hs1 : sizeT P e = 1) (hzz : (zeroT P e).cells.length = sizeT P e) (hzk : (zeroT P e).cells.all AVal.isCell = true) {lx ly : LOpd} {vx vy : Value}
  (rx : Rep c (opd fr lx) vx) (ry : Rep c (opd fr ly) vy) {ty : TypeId} {x : AVal} {H' : Heap} (h : evalOp T (.appS (bytesT P e) e lx ly) fr H = some (x, H')) :
  Done P base (Builtin.append_ #[t, u] ty #[vx, vy]) c w x H' := by
 simp only [evalOp] at h
 split at h
 case h_2 => cases h
 rename_i s hs
 rw [hs] at ry
 cases ry with
 | p _ _ ry =>
 cases ry with
 | str _ hlen =>
 rw [← hs1] at h
 have hsz : (⟨s.toArray⟩ : ByteArray).size = s.length := by simp [ByteArray.size]
 obtain ⟨d, hd⟩ := sizeT_some (P := P) (t := e) (by omega)
 have hf : ∀ (size : Nat) (w : World), (Builtin.firstCells size s.length (.string ⟨s.toArray⟩)).run P w = .ok (s.map fun b => Value.int .u8 b.toNat).toArray w := fun size w => by
  have := run_firstCells_str (P := P) w size ⟨s.toArray⟩
  rw [hsz] at this
  simpa using this
 refine app_core hI hzz hzk rx (news := s.map fun b => Value.int .u8 b.toNat) ⟨by simp [hs1], fun i y j z hy hz => ?_, fun v hv => ?_, fun h0 b n cap hn => ?_, fun hne i g sLen sCap cur e' hi hsz' hg hroom hfit => ?_, fun hne i z b sLen sCap olds hi hsz' hz hol hb hoc hgr hmx hbt => ?_⟩ h
 ·rw [List.getElem?_map] at hy
  obtain ⟨b, hb, rfl⟩ := Option.map_eq_some_iff.1 hy
  cases j with
  | succ j => simp [AVal.cells, PVal.cells] at hz
  | zero =>
   simp [AVal.cells, PVal.cells] at hz
   subst hz
   exact ⟨.int .u8 b.toNat, by simp [hs1, hb], .p _ _ (.int _ _)⟩
 ·obtain ⟨b, _, rfl⟩ := List.mem_map.1 hv
  rfl
 ·have h0' : s = [] := by simpa using h0
  subst h0'
  have hf0 := hf (sizeT P e) w
  simp only [List.length_nil, List.map_nil] at hf0
  cases b with
  | none => simp [Builtin.append_, run_underlying ht, run_underlying hu, run_sizeT hd, Builtin.lenOf, hsz, hn, hf0]
  | some b => simp [Builtin.append_, run_underlying ht, run_underlying hu, run_sizeT hd, Builtin.lenOf, hsz, hn, hf0, storeCells]
 ·have hst := run_storeCells_at P g (sLen * i.size) e' (s.map fun b => Value.int .u8 b.toNat) 0 cur w hg (by simpa using hfit) (fun v hv => by obtain ⟨b, _, rfl⟩ := List.mem_map.1 hv; rfl)
  simp only [Nat.add_zero] at hst
  have hroom' : sLen + s.length ≤ sCap := by simpa using hroom
  simp [Builtin.append_, run_underlying ht, run_underlying hu, sizeOf, typeInfo, hi, Builtin.lenOf, hsz, hroom', hf, Addr.add_lit] at hst ⊢
  rw [hst]
  rfl
 ·simp only [List.length_map] at hgr hmx hbt
  have hn : ¬ (sLen + s.length ≤ sCap) := by omega
  have h63' : ¬ (9223372036854775807 < ((sLen : Int) + (s.length : Int))) := by unfold maxLen at hmx; omega
  have hfit := growslice_fits hgr hbt
  have h48' : ¬ (281474976710656 < Builtin.nextslicecap (sLen + s.length) sCap * i.bytes) := by omega
  have hfo : (Builtin.firstCells i.size sLen (.slice b sLen sCap)).run P w.drew = .ok olds.toArray w.drew := by
   cases b with
   | none =>
    obtain ⟨rfl, rfl⟩ := hb rfl
    have h0 : olds = [] := List.eq_nil_of_length_eq_zero (by simpa using hol)
    subst h0
    simp [Builtin.firstCells, loadCells, loadCellsFrom]
   | some b => exact run_firstCells_some (P := P) w.drew i.size sLen b sLen sCap olds hol (by simpa using hoc b rfl)
  have hf' := hf i.size w.drew
  simp [Builtin.append_, run_underlying ht, run_underlying hu, sizeOf, typeInfo, zeroValue, hi, hz, Builtin.lenOf, hsz, hn, h63', h48', Question.forced, hf', hfo, newRow, grownCap]
  congr 2
  apply Array.ext'
  simp [List.append_assoc]
end Go.Abs
