/-
  A library of the prover's own, part 1: values without memory, own arrays, and single operations of lowered code. No conditions.
-/
import Derived.WalkKit
import Derived.WalkLawsBesides
import Derived.Orders
import Derived.Great.BuildSlice
set_option linter.unusedSimpArgs false
set_option linter.unnecessarySimpa false
set_option linter.unusedVariables false
set_option linter.constructorNameAsVariable false

namespace Go.Abs
inductive PVal where
 | bool (b : Bool)
 | int (k : IntKind) (n : Int)
 | flt (k : FloatKind) (bits : Nat)
 | cpx (k : FloatKind) (re im : Nat)
 | str (s : List UInt8)
 | lst (elems : List PVal)
 | nilp
 | cptr (cells : List PVal)
 | clo (f : FuncId) (caps : List PVal)
 | nilf
 | nili
 | agg (cells : List PVal)
 | tup (vs : List PVal)
 deriving Inhabited
inductive AVal where
 | junk
 | anyb
 | p (x : PVal)
 | tight (es : List PVal)
 | own (k off len ver : Nat)
 | optr (k ver i off : Nat)
 | omap (k ver : Nat)
 | nilm
 | agg (cells : List AVal)
 | tup (vs : List AVal)
 | clo (f : FuncId) (caps : List AVal)
 deriving Inhabited
def PVal.cells : PVal → List PVal
 | .agg l => l
 | x => [x]
def PVal.isCell : PVal → Bool
 | .agg _ => false
 | .tup _ => false
 | _ => true
def AVal.cells : AVal → List AVal
 | .p x => x.cells.map .p
 | .agg l => l
 | x => [x]
def AVal.isCell : AVal → Bool
 | .p x => x.isCell
 | .agg _ => false
 | .tup _ => false
 | .junk => false
 | _ => true
def AVal.isAgg : AVal → Bool
 | .p (.agg _) => true
 | .agg _ => true
 | _ => false
def j3 : List AVal → Option (List PVal)
 | [] => some []
 | .p x :: r => match j3 r with | some ps => some (x :: ps) | none => none
 | _ :: _ => none
def dj (l : List AVal) : AVal := match j3 l with | some ps => .p (.agg ps) | none => .agg l
abbrev Prot := Nat → Nat → Option Value
inductive PRep (pr : Prot) : PVal → Value → Prop
 | bool (b) : PRep pr (.bool b) (.bool b)
 | int (k n) : PRep pr (.int k n) (.int k n)
 | flt (k b) : PRep pr (.flt k b) (.float k b)
 | cpx (k a b) : PRep pr (.cpx k a b) (.complex k a b)
 | str (s : List UInt8) (h : s.length ≤ maxLen) : PRep pr (.str s) (.string ⟨s.toArray⟩)
 | lst (es : List PVal) (a : Option Addr) (len cap size blk off : Nat) (vals : Nat → Nat → Value) (hl : len = es.length) (hc : len ≤ cap) (hm : cap ≤ maxLen)
   (ha : es ≠ [] → a = some ⟨blk, off, none⟩) (hs : ∀ e ∈ es, e.cells.length = size)
   (hp : ∀ i j, i < es.length → j < size → pr blk (off + i * size + j) = some (vals i j))
   (hr : ∀ (i : Nat) e (j : Nat) x, es[i]? = some e → e.cells[j]? = some x → PRep pr x (vals i j)) (hk : ∀ e ∈ es, ∀ x ∈ e.cells, x.isCell = true) : PRep pr (.lst es) (.slice a len cap)
 | nilp : PRep pr .nilp (.pointer none)
 | cptr (cells : List PVal) (blk off : Nat) (vals : Nat → Value) (hp : ∀ j, j < cells.length → pr blk (off + j) = some (vals j))
   (hr : ∀ (j : Nat) x, cells[j]? = some x → PRep pr x (vals j)) (hk : ∀ x ∈ cells, x.isCell = true) : PRep pr (.cptr cells) (.pointer (some ⟨blk, off, none⟩))
 | clo (f : FuncId) (caps : List PVal) (vs : List Value) (hl : vs.length = caps.length) (hr : ∀ (j : Nat) x v, caps[j]? = some x → vs[j]? = some v → PRep pr x v) : PRep pr (.clo f caps) (.func (.func f) #[] vs.toArray)
 | nilf : PRep pr .nilf .nilFunc
 | nili : PRep pr .nili .nilIface
 | agg (cells : List PVal) (vs : List Value) (hl : vs.length = cells.length) (hr : ∀ (j : Nat) x v, cells[j]? = some x → vs[j]? = some v → PRep pr x v) (hk : ∀ x ∈ cells, x.isCell = true) : PRep pr (.agg cells) (.agg vs.toArray)
 | tup (l : List PVal) (vs : List Value) (hl : vs.length = l.length) (hr : ∀ (j : Nat) x v, l[j]? = some x → vs[j]? = some v → PRep pr x v) : PRep pr (.tup l) (.tuple vs.toArray)
def Prot.le (a b : Prot) : Prop := ∀ k o v, a k o = some v → b k o = some v
theorem PRep.mono {a b : Prot} (h : Prot.le a b) {x : PVal} {v : Value} (r : PRep a x v) : PRep b x v := by
 induction r with
 | bool | int | flt | cpx | nilp | nilf | nili => constructor
 | str s h => exact .str s h
 | lst es a len cap size blk off vals hl hc hm ha hs hp hr hk ih => exact .lst es a len cap size blk off vals hl hc hm ha hs (fun i j hi hj => h _ _ _ (hp i j hi hj)) (fun i e j x h1 h2 => ih i e j x h1 h2) hk
 | cptr cells blk off vals hp hr hk ih => exact .cptr cells blk off vals (fun j hj => h _ _ _ (hp j hj)) (fun j x h1 => ih j x h1) hk
 | clo f caps vs hl hr ih => exact .clo f caps vs hl (fun j x v h1 h2 => ih j x v h1 h2)
 | agg cells vs hl hr hk ih => exact .agg cells vs hl (fun j x v h1 h2 => ih j x v h1 h2) hk
 | tup l vs hl hr ih => exact .tup l vs hl (fun j x v h1 h2 => ih j x v h1 h2)
structure Loc where
 ver : Nat
 size : Nat
 place : Option (Nat × Nat)
 mp : Bool
structure Ctx where
 locs : List Loc
 prot : Prot
def OwnVal (l : Loc) (off len : Nat) (v : Value) : Prop := l.mp = false ∧
 match l.place with
 | some (g, cap) => ∃ a cp, v = .slice a len cp ∧ len ≤ cp ∧ cp ≤ maxLen ∧ off + len ≤ cap ∧ ((0 < len ∨ off = 0) → a = some ⟨g, off * l.size, none⟩ ∧ cp = cap - off)
 | none => ∃ a, v = .slice a 0 0 ∧ off = 0 ∧ len = 0 ∧ a = none
inductive Rep (c : Ctx) : AVal → Value → Prop
 | junk (v) : Rep c .junk v
 | anyb (b) : Rep c .anyb (.bool b)
 | p (x v) (h : PRep c.prot x v) : Rep c (.p x) v
 | tight (es : List PVal) (a : Option Addr) (n : Nat) (hn : n = es.length) (h : PRep c.prot (.lst es) (.slice a n n)) (hz : es = [] → a = none) : Rep c (.tight es) (.slice a n n)
 | own (k off len ver : Nat) (l : Loc) (v : Value) (hl : c.locs[k]? = some l) (hv : ver ≤ l.ver) (hh : ver = l.ver → OwnVal l off len v) (ho : ∃ a n m, v = .slice a n m) : Rep c (.own k off len ver) v
 | optr (k ver i off : Nat) (l : Loc) (v : Value) (hl : c.locs[k]? = some l) (hv : ver ≤ l.ver) (hh : ver = l.ver → l.mp = false ∧ ∃ g cap, l.place = some (g, cap) ∧ v = .pointer (some ⟨g, i * l.size + off, none⟩)) (ho : ∃ a, v = .pointer a) : Rep c (.optr k ver i off) v
 | omap (k ver : Nat) (l : Loc) (v : Value) (hl : c.locs[k]? = some l) (hv : ver ≤ l.ver) (hh : ver = l.ver → l.mp = true ∧ ∃ g cap, l.place = some (g, cap) ∧ v = .map (some g)) (ho : ∃ a, v = .map a) : Rep c (.omap k ver) v
 | nilm : Rep c .nilm (.map none)
 | agg (cells : List AVal) (vs : List Value) (hl : vs.length = cells.length) (hr : ∀ (j : Nat) x v, cells[j]? = some x → vs[j]? = some v → Rep c x v) (hk : ∀ x ∈ cells, x.isCell = true) : Rep c (.agg cells) (.agg vs.toArray)
 | tup (l : List AVal) (vs : List Value) (hl : vs.length = l.length) (hr : ∀ (j : Nat) x v, l[j]? = some x → vs[j]? = some v → Rep c x v) : Rep c (.tup l) (.tuple vs.toArray)
 | clo (f : FuncId) (caps : List AVal) (vs : List Value) (hl : vs.length = caps.length) (hr : ∀ (j : Nat) x v, caps[j]? = some x → vs[j]? = some v → Rep c x v) : Rep c (.clo f caps) (.func (.func f) #[] vs.toArray)
def mC (c : Ctx) (b : Nat) : Prop := ∃ (k : Nat) (l : Loc) (cap : Nat), c.locs[k]? = some l ∧ l.place = some (b, cap)
structure Ent where
 size : Nat
 ver : Nat
 froz : Bool
 elems : List AVal
 ty : TypeId
 deriving Inhabited
abbrev zb := List Ent
structure Step (c : Ctx) (w : World) (c' : Ctx) (w' : World) : Prop where
 prot : Prot.le c.prot c'.prot
 locs : ∀ (k : Nat) l, c.locs[k]? = some l → ∃ l', c'.locs[k]? = some l' ∧ l.ver ≤ l'.ver ∧ (l'.ver = l.ver → l' = l)
 os : w'.os = w.os
 tape : w'.tape = w.tape
 output : w'.output = w.output
 size : w.heap.size ≤ w'.heap.size
 blk : ∀ b, b < w.heap.size → ¬ mC c b → w'.heap[b]? = w.heap[b]?
 newloc : ∀ b, mC c' b → mC c b ∨ w.heap.size ≤ b
 newprot : ∀ b o v, c'.prot b o = some v → c.prot b o = some v ∨ w.heap.size ≤ b ∨ mC c b
theorem Step.refl (c : Ctx) (w : World) : Step c w c w :=
 ⟨fun _ _ _ h => h, fun _ l h => ⟨l, h, Nat.le_refl _, fun _ => rfl⟩, rfl, rfl, rfl, Nat.le_refl _, fun _ _ _ => rfl, fun _ h => .inl h, fun _ _ _ h => .inl h⟩
theorem Step.trans {c c1 c2 : Ctx} {w w1 w2 : World} (h : Step c w c1 w1) (k : Step c1 w1 c2 w2) : Step c w c2 w2 where
 prot := fun b o v hv => k.prot b o v (h.prot b o v hv)
 locs := fun i l hl => by
  obtain ⟨l1, h1, h2, h3⟩ := h.locs i l hl
  obtain ⟨l2, k1, k2, k3⟩ := k.locs i l1 h1
  refine ⟨l2, k1, Nat.le_trans h2 k2, fun e => ?_⟩
  have e1 : l1.ver = l.ver := by omega
  have := h3 e1
  subst this
  exact k3 e
 os := k.os.trans h.os
 tape := k.tape.trans h.tape
 output := k.output.trans h.output
 size := Nat.le_trans h.size k.size
 blk := fun b hb hn => (k.blk b (Nat.lt_of_lt_of_le hb h.size) (fun hl => by rcases h.newloc b hl with h1 | h1; exact hn h1; omega)).trans (h.blk b hb hn)
 newloc := fun b hb => by
  rcases k.newloc b hb with h1 | h1
  ·exact h.newloc b h1
  ·exact .inr (Nat.le_trans h.size h1)
 newprot := fun b o v hv => by
  rcases k.newprot b o v hv with h1 | h1 | h1
  ·exact h.newprot b o v h1
  ·exact .inr (.inl (Nat.le_trans h.size h1))
  ·rcases h.newloc b h1 with h2 | h2
   ·exact .inr (.inr h2)
   ·exact .inr (.inl h2)
theorem Rep.step {c c' : Ctx} {w w' : World} (h : Step c w c' w') {x : AVal} {v : Value} (r : Rep c x v) : Rep c' x v := by
 induction r with
 | junk v => exact .junk v
 | anyb b => exact .anyb b
 | p x v hr => exact .p x v (hr.mono h.prot)
 | tight es a n hn hr hz => exact .tight es a n hn (hr.mono h.prot) hz
 | own k off len ver l v hl hv hh ho =>
  obtain ⟨l', h1, h2, h3⟩ := h.locs k l hl
  refine .own k off len ver l' v h1 (Nat.le_trans hv h2) (fun e => ?_) ho
  have e1 : l'.ver = l.ver := by omega
  have := h3 e1
  subst this
  exact hh e
 | optr k ver i off l v hl hv hh ho =>
  obtain ⟨l', h1, h2, h3⟩ := h.locs k l hl
  refine .optr k ver i off l' v h1 (Nat.le_trans hv h2) (fun e => ?_) ho
  have e1 : l'.ver = l.ver := by omega
  have := h3 e1
  subst this
  exact hh e
 | nilm => exact .nilm
 | omap k ver l v hl hv hh ho =>
  obtain ⟨l', h1, h2, h3⟩ := h.locs k l hl
  refine .omap k ver l' v h1 (Nat.le_trans hv h2) (fun e => ?_) ho
  have e1 : l'.ver = l.ver := by omega
  have := h3 e1
  subst this
  exact hh e
 | agg cells vs hl hr hk ih => exact .agg cells vs hl (fun j x v h1 h2 => ih j x v h1 h2) hk
 | tup l vs hl hr ih => exact .tup l vs hl (fun j x v h1 h2 => ih j x v h1 h2)
 | clo f caps vs hl hr ih => exact .clo f caps vs hl (fun j x v h1 h2 => ih j x v h1 h2)
def MapIn (c : Ctx) (w : World) (e : Ent) (g : Nat) : Prop := ∃ es clock, w.heap[g]? = some (.map es clock) ∧ es.size = e.elems.length ∧
 ∀ (i : Nat) x, e.elems[i]? = some x → ∃ me k y, es[i]? = some me ∧ me.key = .int .i64 k ∧ x = .p (.agg [.int .i64 k, y]) ∧ PRep c.prot y me.val
structure EntOk (c : Ctx) (w : World) (e : Ent) (l : Loc) : Prop where
 ver : l.ver = e.ver
 size : l.size = e.size
 pos : l.mp = decide (e.size = 0)
 cells : l.mp = false → ∀ x ∈ e.elems, x.cells.length = e.size ∧ ∀ y ∈ x.cells, y.isCell = true
 nowhere : l.place = none → e.elems = []
 typed : ∀ g cap cur ty fr, l.place = some (g, cap) → w.heap[g]? = some (.cells cur ty fr) → ty = e.ty
 mapped : ∀ g cap, l.place = some (g, cap) → l.mp = true → MapIn c w e g
 there : ∀ g cap, l.place = some (g, cap) → l.mp = false → ∃ cur ty, w.heap[g]? = some (.cells cur ty (0, 0)) ∧ cur.size = cap * e.size ∧ cap ≤ maxLen ∧ e.elems.length ≤ cap ∧
  (∀ (i : Nat) x (j : Nat) y, e.elems[i]? = some x → x.cells[j]? = some y → ∃ v, cur[i * e.size + j]? = some v ∧ Rep c y v) ∧
  (∀ o v, c.prot g o = some v → e.froz = true ∧ o < e.elems.length * e.size)
theorem nP {n : Nat} (h : 0 < n) : false = decide (n = 0) := by
 rw [eq_comm, decide_eq_false_iff_not]; omega
structure Inv (base : Prot) (c : Ctx) (H : zb) (w : World) : Prop where
 base : Prot.le base c.prot
 len : c.locs.length = H.length
 prot : ∀ b o v, c.prot b o = some v → w.cell? ⟨b, o, none⟩ = some v
 ent : ∀ (k : Nat) e l, H[k]? = some e → c.locs[k]? = some l → EntOk c w e l
 inj : ∀ (k k' : Nat) l l' g cp cp', c.locs[k]? = some l → c.locs[k']? = some l' → l.place = some (g, cp) → l'.place = some (g, cp') → k = k'
def RepL (c : Ctx) (xs : List AVal) (vs : List Value) : Prop := vs.length = xs.length ∧ ∀ (j : Nat) x v, xs[j]? = some x → vs[j]? = some v → Rep c x v
theorem RepL.step {c c' : Ctx} {w w' : World} (h : Step c w c' w') {xs : List AVal} {vs : List Value} (r : RepL c xs vs) : RepL c' xs vs :=
 ⟨r.1, fun j x v h1 h2 => (r.2 j x v h1 h2).step h⟩
def Spec (P : Program) (base : Prot) (f : FuncId) (args : List AVal) (H : zb) (r : AVal) (H' : zb) : Prop :=
 ∀ (c : Ctx) (w : World) (vs : List Value), Inv base c H w → RepL c args vs →
  Calls P f vs.toArray w fun e w' => ∃ v c', e = .returned v ∧ Step c w c' w' ∧ Inv base c' H' w' ∧ Rep c' r v
end Go.Abs

namespace Go.Abs
abbrev AFr := Nat → AVal
def upd (fr : AFr) (d : Nat) (v : AVal) : AFr := fun i => if i = d then v else fr i
inductive LOpd where
 | tmp (t : Nat)
 | cst (x : AVal)
 deriving Inhabited
def opd (fr : AFr) : LOpd → AVal
 | .tmp t => fr t
 | .cst x => x
inductive SK where
 | b
 | i
 | s
 deriving Inhabited
inductive LConv where
 | toInt (k : IntKind)
 | s2b
 | b2s
 | same
 | mark
 | i2f (k : FloatKind)
 | f2i (k : IntKind)
 deriving Inhabited
inductive LOp where
 | mov (x : LOpd)
 | pick (c a b : LOpd)
 | newv (size : Nat) (ty : TypeId) (x : LOpd)
 | build (zero : AVal) (parts : List (Nat × Nat × LOpd))
 | buildSl (size : Nat) (ty : TypeId) (zero : AVal) (len : Nat) (parts : List (Nat × LOpd))
 | load (n : Nat) (ag : Bool) (a : LOpd)
 | store (n : Nat) (a x : LOpd)
 | nilc (x : LOpd)
 | bin (op : BinOp) (x y : LOpd)
 | eqB (neg : Bool) (x y : LOpd)
 | eqA (neg : Bool) (ks : List SK) (x y : LOpd)
 | eqN (neg fn : Bool) (x y : LOpd)
 | eqS (neg : Bool) (x y : LOpd)
 | eqI (neg : Bool) (x : LOpd)
 | un (op : UnOp) (x : LOpd)
 | conv (k : LConv) (x : LOpd)
 | mkf (f : FuncId) (caps : List LOpd)
 | mksl (size bytes : Nat) (ty : TypeId) (zero : AVal) (l c : LOpd)
 | slStr (x : LOpd) (lo hi : Option LOpd)
 | slSl (size : Nat) (x : LOpd) (lo hi mx : Option LOpd)
 | fadr (off : Nat) (x : LOpd)
 | fld (off n : Nat) (ag : Bool) (x : LOpd)
 | iadr (size : Nat) (x i : LOpd)
 | iaadr (len size : Nat) (x i : LOpd)
 | istr (x i : LOpd)
 | iarr (len size : Nat) (ag : Bool) (x i : LOpd)
 | ext (x : LOpd) (i : Nat)
 | call (f : FuncId) (args : List LOpd)
 | calle (f : FuncId) (args : List LOpd)
 | callv (x : LOpd) (args : List LOpd)
 | lenS (x : LOpd)
 | len (x : LOpd)
 | app (size bytes : Nat) (ty : TypeId) (x y : LOpd)
 | appS (bytes : Nat) (ty : TypeId) (x y : LOpd)
 | cpy (size : Nat) (x y : LOpd)
 | clr (size : Nat) (z : AVal) (x : LOpd)
 | minmax (mx : Bool) (x y : LOpd)
 | minmax3 (mx : Bool) (x y z : LOpd)
 | re (x : LOpd)
 | im (x : LOpd)
 | mkc (x y : LOpd)
 | mkm
 | mget (ok : Bool) (zero : AVal) (x k : LOpd)
 | mset (x k v : LOpd)
 | bad
 deriving Inhabited
structure LOper where
 dst : Option Nat
 guard : Option (Nat × Bool)
 op : LOp
 deriving Inhabited
inductive Fl where
 | f
 | s
 | t
 | n (r : Nat)
 | c (R : Nat)
 | a (rs : List Nat)
 deriving Inhabited, DecidableEq
inductive LCode where
 | skip
 | region (ops : List LOper)
 | regionD (ops : List LOper)
 | regionW (ops : List (LOper × Fl))
 | regionN (R : Nat) (ops : List (LOper × Fl))
 | seq (a b : LCode)
 | cond (c : LOpd) (thn els : LCode)
 | block (id : Nat) (body : LCode)
 | loop (body : LCode)
 | exit (id : Nat)
 | ret
 | bad
 deriving Inhabited
inductive LRes where
 | slot (t : Nat)
 | cell (t n : Nat) (ag : Bool)
 deriving Inhabited
structure LFunc where
 n : Nat
 results : List LRes
 body : LCode
 deriving Inhabited
def zP {α β : Type} (f : α → Option β) : List α → Option (List β)
 | [] => some []
 | x :: r => match f x with
  | some y => match zP f r with
   | some ys => some (y :: ys)
   | none => none
  | none => none
def zj (H : zb) : Nat → AVal → Option PVal
 | _, .p x => some x
 | _, .tight es => some (.lst es)
 | n + 1, .own k off len ver => match H[k]? with
  | some e => if e.ver = ver ∧ off + len ≤ e.elems.length then
    match zP (zj H n) ((e.elems.drop off).take len) with | some ps => some (.lst ps) | none => none
   else none
  | none => none
 | n + 1, .optr k ver i off => match H[k]? with
  | some e => if e.ver = ver then match e.elems[i]? with
    | some x => match zP (zj H n) (x.cells.drop off) with | some ps => some (.cptr ps) | none => none
    | none => none
   else none
  | none => none
 | n + 1, .agg l => match zP (zj H n) l with | some ps => some (.agg ps) | none => none
 | n + 1, .tup l => match zP (zj H n) l with | some ps => some (.tup ps) | none => none
 | n + 1, .clo f l => match zP (zj H n) l with | some ps => some (.clo f ps) | none => none
 | _, _ => none
def zi (H : zb) : Nat → AVal → List Nat
 | _, .p _ => []
 | _, .tight _ => []
 | n + 1, .own k off len _ => k :: (match H[k]? with
  | some e => ((e.elems.drop off).take len).flatMap (zi H n)
  | none => [])
 | n + 1, .optr k _ i off => k :: (match H[k]? with
  | some e => match e.elems[i]? with | some x => (x.cells.drop off).flatMap (zi H n) | none => []
  | none => [])
 | n + 1, .agg l => l.flatMap (zi H n)
 | n + 1, .tup l => l.flatMap (zi H n)
 | n + 1, .clo _ l => l.flatMap (zi H n)
 | _, _ => []
def freeze1 (H : zb) (k : Nat) : zb := match H[k]? with
 | some e => H.set k ⟨e.size, e.ver, true, e.elems, e.ty⟩
 | none => H
def freezeL (H : zb) (ks : List Nat) : zb := ks.foldl freeze1 H
def fuel : Nat := 8
def zk (n : Nat) : AVal → AVal
 | .own k off len ver => .own (n + k) off len ver
 | .optr k ver i off => .optr (n + k) ver i off
 | .omap k ver => .omap (n + k) ver
 | .agg l => .agg (l.map (zk n))
 | .tup l => .tup (l.map (zk n))
 | .clo f l => .clo f (l.map (zk n))
 | x => x
def wH (n : Nat) (e : Ent) : Ent := ⟨e.size, e.ver, e.froz, e.elems.map (zk n), e.ty⟩
structure Tab where
 fn : FuncId → List PVal → Option (AVal × zb)
 mu : FuncId → List AVal → zb → Option (AVal × zb)
 ex : FuncId → List PVal → Option PVal
def mg (T : Tab) (f : FuncId) (args : List AVal) (H : zb) : Option (AVal × zb) :=
 match T.mu f args H with
 | some r => some r
 | none => match zP (zj H fuel) args with
  | some ps => match T.fn f ps with
   | some (r, E) => some (zk H.length r, freezeL H (args.flatMap (zi H fuel)) ++ E.map (wH H.length))
   | none => none
  | none => none
def qZ : AVal → Option Int
 | .p (.int _ n) => some n
 | _ => none
def jX (H : zb) : AVal → Option (List AVal)
 | .own k off len ver => match H[k]? with
  | some e => if e.ver = ver ∧ off + len ≤ e.elems.length then some ((e.elems.drop off).take len) else none
  | none => none
 | .p (.lst es) => some (es.map .p)
 | .tight es => some (es.map .p)
 | .p (.str s) => some (s.map fun b => .p (.int .u8 b.toNat))
 | _ => none
def jO (H : zb) (x : AVal) : Option (List AVal) := match x with
 | .p (.str _) => none
 | y => jX H y
def uE (H : zb) : AVal → Option Nat
 | .own k _ len ver => match H[k]? with
  | some e => if e.ver = ver then some len else none
  | none => none
 | .p (.lst es) => some es.length
 | .tight es => some es.length
 | _ => none
def bytesOf : List AVal → Option (List UInt8)
 | [] => some []
 | .p (.int .u8 n) :: r => match bytesOf r with | some bs => some (UInt8.ofNat n.toNat :: bs) | none => none
 | _ :: _ => none
def vj (ag : Bool) (l : List AVal) : Option AVal :=
 if ag then some (dj l) else match l with | [x] => some x | _ => none
def putCells (el x : AVal) (off n : Nat) : Option AVal :=
 if x.cells.length = n ∧ x.cells.all AVal.isCell = true then
  if el.isAgg then (if off + n ≤ el.cells.length then some (dj (el.cells.take off ++ x.cells ++ el.cells.drop (off + n))) else none)
  else if off = 0 ∧ n = 1 ∧ x.isAgg = false then some x else none
 else none
def qA (opv : LOpd → AVal) : List AVal → List (Nat × Nat × LOpd) → Option (List AVal)
 | cells, [] => some cells
 | cells, (off, size, x) :: r =>
  if (opv x).cells.length = size ∧ off + size ≤ cells.length ∧ (opv x).cells.all AVal.isCell = true then
   qA opv (cells.take off ++ (opv x).cells ++ cells.drop (off + size)) r
  else none
def zN (opv : LOpd → AVal) (size : Nat) : List AVal → List (Nat × LOpd) → Option (List AVal)
 | es, [] => some es
 | es, (i, x) :: r =>
  if (opv x).cells.length = size ∧ i < es.length ∧ (opv x).cells.all AVal.isCell = true then zN opv size (es.set i (opv x)) r
  else none
def qh (n : Int) (y : PVal) : AVal := .p (.agg [.int .i64 n, y])
def wJ (n : Int) : List AVal → Option PVal
 | [] => none
 | .p (.agg [.int .i64 k, y]) :: r => if n = k then some y else wJ n r
 | _ :: _ => none
def wU (n : Int) (y : PVal) : List AVal → List AVal
 | [] => [qh n y]
 | .p (.agg [.int .i64 k, z]) :: r => if n = k then qh n y :: r else qh k z :: wU n y r
 | x :: r => x :: wU n y r
def binI (op : BinOp) (k : IntKind) (a b : Int) : Option PVal :=
 match op with
 | .add => some (.int k (k.wrap (a + b)))
 | .sub => some (.int k (k.wrap (a - b)))
 | .mul => some (.int k (k.wrap (a * b)))
 | .quo => if b = 0 then none else some (.int k (k.wrap (a.tdiv b)))
 | .rem => if b = 0 then none else some (.int k (a.tmod b))
 | .and => some (.int k (k.wrap ((BitVec.ofInt k.bits a) &&& (BitVec.ofInt k.bits b)).toNat))
 | .or => some (.int k (k.wrap ((BitVec.ofInt k.bits a) ||| (BitVec.ofInt k.bits b)).toNat))
 | .xor => some (.int k (k.wrap ((BitVec.ofInt k.bits a) ^^^ (BitVec.ofInt k.bits b)).toNat))
 | .andNot => some (.int k (k.wrap ((BitVec.ofInt k.bits a) &&& ~~~(BitVec.ofInt k.bits b)).toNat))
 | .eql => some (.bool (a == b))
 | .neq => some (.bool (a != b))
 | .lss => some (.bool (decide (a < b)))
 | .leq => some (.bool (decide (a ≤ b)))
 | .gtr => some (.bool (decide (a > b)))
 | .geq => some (.bool (decide (a ≥ b)))
 | _ => none
def qw (op : BinOp) (k : IntKind) (a b : Int) : Option PVal :=
 if b < 0 then none else
 match op with
 | .shl => some (.int k (k.wrap (a * 2 ^ (min b.toNat k.bits))))
 | .shr => some (.int k (a.fdiv (2 ^ (min b.toNat k.bits))))
 | _ => none
def dV (op : BinOp) (a b : List UInt8) : Option PVal :=
 match op with
 | .add => if a.length + b.length ≤ maxLen then some (.str (a ++ b)) else none
 | .eql => some (.bool (a == b))
 | .neq => some (.bool (!(a == b)))
 | .lss => some (.bool (Op.bytesLess a b))
 | .leq => some (.bool (Op.bytesLess a b || a == b))
 | .gtr => some (.bool (!(Op.bytesLess a b || a == b)))
 | .geq => some (.bool (!(Op.bytesLess a b)))
 | _ => none
def binF (op : BinOp) (k : FloatKind) (a b : Nat) : Option PVal :=
 match op with
 | .add => (k.format.add a b).map (.flt k)
 | .sub => (k.format.sub a b).map (.flt k)
 | .mul => (k.format.mul a b).map (.flt k)
 | .quo => (k.format.div a b).map (.flt k)
 | .eql => some (.bool (k.format.order a b == some .eq))
 | .neq => some (.bool (k.format.order a b != some .eq))
 | .lss => some (.bool (k.format.order a b == some .lt))
 | .leq => some (.bool (k.format.order a b == some .lt || k.format.order a b == some .eq))
 | .gtr => some (.bool (k.format.order a b == some .gt))
 | .geq => some (.bool (k.format.order a b == some .gt || k.format.order a b == some .eq))
 | _ => none
def binC (op : BinOp) (k : FloatKind) (a b c d : Nat) : Option PVal :=
 match op with
 | .eql => some (.bool (k.format.order a c == some .eq && k.format.order b d == some .eq))
 | .neq => some (.bool (!(k.format.order a c == some .eq && k.format.order b d == some .eq)))
 | _ => none
def isShift : BinOp → Bool
 | .shl => true
 | .shr => true
 | _ => false
def binV (op : BinOp) : AVal → AVal → Option PVal
 | .p (.int k a), .p (.int k' b) => if isShift op then qw op k a b else if k = k' then binI op k a b else none
 | .p (.str a), .p (.str b) => dV op a b
 | .p (.flt k a), .p (.flt k' b) => if k = k' then binF op k a b else none
 | .p (.cpx k a b), .p (.cpx k' c d) => if k = k' then binC op k a b c d else none
 | _, _ => none
def ng : SK → PVal → PVal → Option Bool
 | .b, .bool a, .bool b => some (a == b)
 | .i, .int k a, .int k' b => if k = k' then some (a == b) else none
 | .s, .str a, .str b => some (a == b)
 | _, _, _ => none
def wF : List SK → List PVal → List PVal → Option Bool
 | [], [], [] => some true
 | k :: ks, x :: xs, y :: ys => match ng k x y with
  | some b => match wF ks xs ys with | some c => some (b && c) | none => none
  | none => none
 | _, _, _ => none
def eqNil (H : zb) (fn : Bool) : AVal → AVal → Option Bool
 | .p .nilp, .p .nilp => if fn then none else some true
 | .p (.cptr _), .p .nilp => if fn then none else some false
 | .optr k ver _ _, .p .nilp => match H[k]? with
  | some e => if e.ver = ver ∧ fn = false then some false else none
  | none => none
 | .p .nilf, .p .nilf => if fn then some true else none
 | .p (.clo _ _), .p .nilf => if fn then some false else none
 | .clo _ _, .p .nilf => if fn then some false else none
 | _, _ => none
def unV (op : UnOp) : AVal → Option PVal
 | .p (.bool b) => match op with | .not => some (.bool (!b)) | _ => none
 | .p (.int k n) => match op with
  | .neg => some (.int k (k.wrap (0 - n)))
  | .xor => binI .xor k (if k.signed then -1 else k.max) n
  | _ => none
 | .p (.flt k b) => match op with | .neg => some (.flt k (Op.negFloat k b)) | _ => none
 | .p (.cpx k a b) => match op with | .neg => some (.cpx k (Op.negFloat k a) (Op.negFloat k b)) | _ => none
 | _ => none
def yU (fr : AFr) (d : Nat) : Option LOpd → Option Int
 | none => some d
 | some x => qZ (opd fr x)
def aO (f : FuncId) (l : List AVal) : AVal := match j3 l with | some ps => .p (.clo f ps) | none => .clo f l
def u3 (size : Nat) (es : List PVal) : Bool := es.all fun e => e.cells.length == size
def qC (size bytes : Nat) (ty : TypeId) (x : AVal) (ys : List AVal) (H : zb) : Option (AVal × zb) :=
 if ys.all (fun y => y.cells.length == size && y.cells.all AVal.isCell) = true ∧ 0 < size then
  match x with
  | .own k off len ver => match H[k]? with
   | some e => if e.ver = ver ∧ e.size = size ∧ e.ty = ty ∧ off = 0 ∧ len = e.elems.length ∧ (e.elems.length + ys.length) * bytes ≤ 140737488355328 ∧ e.elems.length + ys.length ≤ maxLen then
     some (.own k 0 (len + ys.length) (ver + 1), H.set k ⟨size, ver + 1, e.froz, e.elems ++ ys, ty⟩)
    else if e.ver = ver ∧ e.size = size ∧ off = 0 ∧ e.froz = false ∧ len + ys.length ≤ e.elems.length ∧ 0 < ys.length then
     some (.own k 0 (len + ys.length) ver, H.set k ⟨e.size, e.ver, e.froz, e.elems.take len ++ ys ++ e.elems.drop (len + ys.length), e.ty⟩)
    else if e.ver = ver ∧ ys.length = 0 then some (.own k off len ver, H)
    else none
   | none => none
  | .tight es => if (es.isEmpty || !ys.isEmpty) = true ∧ es.all (fun y => y.cells.length == size) = true ∧ (es.length + ys.length) * bytes ≤ 140737488355328 ∧ es.length + ys.length ≤ maxLen then
    some (.own H.length 0 (es.length + ys.length) 0, H ++ [⟨size, 0, false, es.map .p ++ ys, ty⟩])
   else none
  | _ => none
 else none
def mx2 (a b : Int) : Int := if a < b then b else a
def mn2 (a b : Int) : Int := if b < a then b else a
def zn (T : Tab) : LOp → AFr → zb → Option (AVal × zb)
 | .mov x, fr, H => some (opd fr x, H)
 | .pick c a b, fr, H => match opd fr c with
  | .p (.bool t) => some (if t then opd fr a else opd fr b, H)
  | _ => none
 | .newv size ty x, fr, H =>
  if (opd fr x).cells.length = size ∧ 0 < size ∧ (opd fr x).cells.all AVal.isCell = true then
   some (.optr H.length 0 0 0, H ++ [⟨size, 0, false, [opd fr x], ty⟩])
  else none
 | .build z parts, fr, H => if z.cells.all AVal.isCell = true then (match qA (opd fr) z.cells parts with
  | some cs => some (dj cs, H)
  | none => none) else none
 | .buildSl size ty z len parts, fr, H =>
  if z.cells.length = size ∧ 0 < size ∧ len * size ≤ 16777216 ∧ z.cells.all AVal.isCell = true then
   match zN (opd fr) size (List.replicate len z) parts with
   | some es => some (.own H.length 0 len 0, H ++ [⟨size, 0, false, es, ty⟩])
   | none => none
  else none
 | .load n ag a, fr, H => match opd fr a with
  | .optr k ver i off => match H[k]? with
   | some e => if e.ver = ver then match e.elems[i]? with
     | some x => if off + n ≤ x.cells.length then
       match vj ag ((x.cells.drop off).take n) with | some v => some (v, H) | none => none
      else none
     | none => none
    else none
   | none => none
  | .p (.cptr cells) => if n ≤ cells.length then
    match vj ag ((cells.take n).map .p) with | some v => some (v, H) | none => none
   else none
  | _ => none
 | .store n a x, fr, H => match opd fr a with
  | .optr k ver i off => match H[k]? with
   | some e => if e.ver = ver ∧ e.froz = false then match e.elems[i]? with
     | some el => match putCells el (opd fr x) off n with
      | some el' => some (.p (.tup []), H.set k ⟨e.size, e.ver, e.froz, e.elems.set i el', e.ty⟩)
      | none => none
     | none => none
    else none
   | none => none
  | _ => none
 | .nilc x, fr, H => match opd fr x with
  | .optr k ver i off => match H[k]? with
   | some e => if e.ver = ver then some (.optr k ver i off, H) else none
   | none => none
  | .p (.cptr l) => some (.p (.cptr l), H)
  | .p (.clo f l) => some (.p (.clo f l), H)
  | .clo f l => some (.clo f l, H)
  | _ => none
 | .bin op x y, fr, H => match binV op (opd fr x) (opd fr y) with | some v => some (.p v, H) | none => none
 | .eqB neg x y, fr, H => match opd fr x, opd fr y with
  | .p (.bool a), .p (.bool b) => some (.p (.bool ((a == b) != neg)), H)
  | _, _ => none
 | .eqA neg ks x y, fr, H => match opd fr x, opd fr y with
  | .p (.agg a), .p (.agg b) => match wF ks a b with | some t => some (.p (.bool (t != neg)), H) | none => none
  | _, _ => none
 | .eqN neg fn x y, fr, H => match eqNil H fn (opd fr x) (opd fr y) with | some t => some (.p (.bool (t != neg)), H) | none => none
 | .eqS neg x y, fr, H => match opd fr y with
  | .tight [] => match opd fr x with
   | .p (.lst []) => some (.anyb, H)
   | .p (.lst (_ :: _)) => some (.p (.bool neg), H)
   | .tight (_ :: _) => some (.p (.bool neg), H)
   | .tight [] => some (.p (.bool (!neg)), H)
   | _ => none
  | _ => none
 | .eqI neg x, fr, H => match opd fr x with
  | .p .nili => some (.p (.bool (!neg)), H)
  | _ => none
 | .un op x, fr, H => match unV op (opd fr x) with | some v => some (.p v, H) | none => none
 | .conv k x, fr, H => match k with
  | .toInt k => match qZ (opd fr x) with | some n => some (.p (.int k (k.wrap n)), H) | none => none
  | .s2b => match opd fr x with | .p (.str s) => some (.p (.lst (s.map fun b => .int .u8 b.toNat)), H) | _ => none
  | .b2s => match opd fr x with
   | .p (.str _) => none
   | y => match jX H y with
    | some es => match bytesOf es with | some bs => some (.p (.str bs), H) | none => none
    | none => none
  | .same => match opd fr x with | .p (.str s) => some (.p (.str s), H) | _ => none
  | .mark => match opd fr x with
   | .own k 0 len ver => match H[k]? with
    | some e => if e.ver = ver ∧ len = e.elems.length ∧ 0 < len then (match zP (zj H 0) e.elems with
     | some ps => some (.p (.lst ps), H.set k ⟨e.size, e.ver + 1, true, [], e.ty⟩)
     | none => none) else none
    | none => none
   | _ => none
  | .i2f k => match qZ (opd fr x) with | some n => some (.p (.flt k (k.nearest n)), H) | none => none
  | .f2i k => match opd fr x with
   | .p (.flt s b) => match (s.decode b).toInt .zero with
    | some n => if k.min ≤ n ∧ n ≤ k.max then some (.p (.int k n), H) else none
    | none => none
   | _ => none
 | .mkf f caps, fr, H => some (aO f (caps.map (opd fr)), H)
 | .mksl size bytes ty z l c, fr, H => match qZ (opd fr l), qZ (opd fr c) with
  | some l, some c => if 0 ≤ l ∧ l ≤ c ∧ c * bytes ≤ 140737488355328 ∧ c ≤ maxLen ∧ z.cells.length = size ∧ 0 < size ∧ z.cells.all AVal.isCell = true then
    some (.own H.length 0 l.toNat 0, H ++ [⟨size, 0, false, List.replicate l.toNat z, ty⟩])
   else none
  | _, _ => none
 | .slStr x lo hi, fr, H => match opd fr x with
  | .p (.str s) => match yU fr 0 lo, yU fr s.length hi with
   | some l, some h => if 0 ≤ l ∧ l ≤ h ∧ h ≤ s.length then some (.p (.str ((s.take h.toNat).drop l.toNat)), H) else none
   | _, _ => none
  | _ => none
 | .slSl size x lo hi mx, fr, H => match opd fr x with
  | .own k off len ver => match mx with
   | some m => match H[k]? with
    | some e => match yU fr 0 lo, yU fr len hi, qZ (opd fr m) with
     | some l, some h, some mm => if 0 ≤ l ∧ l ≤ h ∧ h ≤ mm ∧ mm ≤ len ∧ hi.isSome = true ∧ e.ver = ver then some (.junk, H) else none
     | _, _, _ => none
    | none => none
   | none => match H[k]? with
    | some e => match yU fr 0 lo, yU fr len hi with
     | some l, some h => if 0 ≤ l ∧ l ≤ h ∧ h ≤ len ∧ e.ver = ver ∧ e.size = size then some (.own k (off + l.toNat) (h - l).toNat ver, H)
      else if 0 ≤ l ∧ l ≤ h ∧ off = 0 ∧ h ≤ e.elems.length ∧ e.ver = ver ∧ e.size = size then some (.own k l.toNat (h - l).toNat ver, H) else none
     | _, _ => none
    | none => none
  | .p (.lst es) => match yU fr 0 lo, yU fr es.length hi with
   | some l, some h => if 0 ≤ l ∧ l ≤ h ∧ h ≤ es.length ∧ (lo.isNone || u3 size es) = true then
     match mx with
     | none => some (.p (.lst ((es.take h.toNat).drop l.toNat)), H)
     | some m => if (qZ (opd fr m) = some h ∧ hi.isSome = true) ∧ l < h then some (.tight ((es.take h.toNat).drop l.toNat), H) else none
    else none
   | _, _ => none
  | .tight es => match yU fr 0 lo, yU fr es.length hi with
   | some l, some h => if 0 ≤ l ∧ l ≤ h ∧ h ≤ es.length ∧ (lo.isNone || u3 size es) = true then
     match mx with
     | none => some (.p (.lst ((es.take h.toNat).drop l.toNat)), H)
     | some m => if (qZ (opd fr m) = some h ∧ hi.isSome = true) ∧ l < h then some (.tight ((es.take h.toNat).drop l.toNat), H) else none
    else none
   | _, _ => none
  | _ => none
 | .fadr off x, fr, H => match opd fr x with
  | .optr k ver i o => match H[k]? with
   | some e => if e.ver = ver then some (.optr k ver i (o + off), H) else none
   | none => none
  | .p (.cptr cells) => if off ≤ cells.length then some (.p (.cptr (cells.drop off)), H) else none
  | _ => none
 | .fld off n ag x, fr, H => if off + n ≤ (opd fr x).cells.length ∧ (opd fr x).isAgg = true then
   match vj ag (((opd fr x).cells.drop off).take n) with | some v => some (v, H) | none => none
  else none
 | .iadr size x i, fr, H => match qZ (opd fr i) with
  | some i => match opd fr x with
   | .own k off len ver => match H[k]? with
    | some e => if 0 ≤ i ∧ i < len ∧ e.ver = ver ∧ e.size = size then some (.optr k ver (off + i.toNat) 0, H) else none
    | none => none
   | .p (.lst es) => if 0 ≤ i then match es[i.toNat]? with
     | some e => if e.cells.length = size then some (.p (.cptr e.cells), H) else none
     | none => none
    else none
   | .tight es => if 0 ≤ i then match es[i.toNat]? with
     | some e => if e.cells.length = size then some (.p (.cptr e.cells), H) else none
     | none => none
    else none
   | _ => none
  | none => none
 | .iaadr len size x i, fr, H => match qZ (opd fr i) with
  | some i => match opd fr x with
   | .optr k ver j o => match H[k]? with
    | some e => if 0 ≤ i ∧ i < len ∧ e.ver = ver then some (.optr k ver j (o + i.toNat * size), H) else none
    | none => none
   | .p (.cptr cells) => if 0 ≤ i ∧ i < len ∧ i.toNat * size ≤ cells.length then some (.p (.cptr (cells.drop (i.toNat * size))), H) else none
   | _ => none
  | none => none
 | .istr x i, fr, H => match opd fr x, qZ (opd fr i) with
  | .p (.str s), some i => if 0 ≤ i then match s[i.toNat]? with | some b => some (.p (.int .u8 b.toNat), H) | none => none else none
  | _, _ => none
 | .iarr len size ag x i, fr, H => match qZ (opd fr i) with
  | some i => if 0 ≤ i ∧ i < len ∧ (i.toNat + 1) * size ≤ (opd fr x).cells.length ∧ (opd fr x).isAgg = true then
    match vj ag (((opd fr x).cells.drop (i.toNat * size)).take size) with | some v => some (v, H) | none => none
   else none
  | none => none
 | .ext x i, fr, H => match opd fr x with
  | .p (.tup l) => match l[i]? with | some v => some (.p v, H) | none => none
  | .tup l => match l[i]? with | some v => some (v, H) | none => none
  | _ => none
 | .call f args, fr, H => mg T f (args.map (opd fr)) H
 | .calle f args, fr, H => match j3 (args.map (opd fr)) with
  | some ps => match T.ex f ps with | some x => some (.p x, H) | none => none
  | none => none
 | .callv x args, fr, H => match opd fr x with
  | .p (.clo f caps) => mg T f (args.map (opd fr) ++ caps.map .p) H
  | .clo f caps => mg T f (args.map (opd fr) ++ caps) H
  | _ => none
 | .lenS x, fr, H => match opd fr x with | .p (.str s) => some (.p (.int .i64 s.length), H) | _ => none
 | .len x, fr, H => match uE H (opd fr x) with | some n => some (.p (.int .i64 n), H) | none => none
 | .app size bytes ty x y, fr, H => match jO H (opd fr y) with
  | some ys => qC size bytes ty (opd fr x) ys H
  | none => none
 | .appS bytes ty x y, fr, H => match opd fr y with
  | .p (.str s) => qC 1 bytes ty (opd fr x) (s.map fun b => .p (.int .u8 b.toNat)) H
  | _ => none
 | .cpy size x y, fr, H => match jO H (opd fr y) with
  | some ys => if ys.all (fun y => y.cells.length == size && y.cells.all AVal.isCell) = true ∧ 0 < size then
    match opd fr x with
    | .own k off len ver => match H[k]? with
     | some e => if e.ver = ver ∧ e.size = size ∧ e.froz = false ∧ off + len ≤ e.elems.length ∧ 0 < len then
       some (.p (.int .i64 (min ys.length len)), H.set k ⟨e.size, e.ver, e.froz, e.elems.take off ++ ys.take len ++ e.elems.drop (off + min ys.length len), e.ty⟩)
      else none
     | none => none
    | _ => none
   else none
  | none => none
 | .clr size z x, fr, H => match opd fr x with
  | .own k off len ver => match H[k]? with
   | some e => if e.ver = ver ∧ e.size = size ∧ e.froz = false ∧ off + len ≤ e.elems.length ∧ 0 < len then
     some (.p (.tup []), H.set k ⟨e.size, e.ver, e.froz, e.elems.take off ++ List.replicate len z ++ e.elems.drop (off + len), e.ty⟩)
    else none
   | none => none
  | _ => none
 | .minmax mx x y, fr, H => match opd fr x, opd fr y with
  | .p (.int k a), .p (.int k' b) => if k = k' then some (.p (.int k (if mx then (if a < b then b else a) else (if b < a then b else a))), H) else none
  | _, _ => none
 | .minmax3 mx x y z, fr, H => match opd fr x, opd fr y, opd fr z with
  | .p (.int k a), .p (.int k' b), .p (.int k'' c) => if k = k' ∧ k = k'' then some (.p (.int k (if mx then mx2 (mx2 a b) c else mn2 (mn2 a b) c)), H) else none
  | _, _, _ => none
 | .re x, fr, H => match opd fr x with | .p (.cpx k a _) => some (.p (.flt k a), H) | _ => none
 | .im x, fr, H => match opd fr x with | .p (.cpx k _ b) => some (.p (.flt k b), H) | _ => none
 | .mkc x y, fr, H => match opd fr x, opd fr y with
  | .p (.flt k a), .p (.flt k' b) => if k = k' then some (.p (.cpx k a b), H) else none
  | _, _ => none
 | .mkm, _, H => some (.omap H.length 0, H ++ [⟨0, 0, false, [], 0⟩])
 | .mget ok z x k, fr, H => match opd fr x, opd fr k with
  | .omap j ver, .p (.int .i64 n) => match H[j]? with
   | some e => if e.ver = ver then match wJ n e.elems with
     | some y => some (if ok then .p (.tup [y, .bool true]) else .p y, H)
     | none => match z with
      | .p y => some (if ok then .p (.tup [y, .bool false]) else .p y, H)
      | z => some (if ok then .tup [z, .p (.bool false)] else z, H)
    else none
   | none => none
  | _, _ => none
 | .mset x k v, fr, H => match opd fr x, opd fr k, opd fr v with
  | .omap j ver, .p (.int .i64 n), .p y => match H[j]? with
   | some e => if e.ver = ver ∧ e.froz = false then
     some (.p (.tup []), H.set j ⟨e.size, e.ver, e.froz, wU n y e.elems, e.ty⟩)
    else none
   | none => none
  | _, _, _ => none
 | .bad, _, _ => none
def put (fr : AFr) (d : Option Nat) (v : AVal) : AFr := match d with | some d => upd fr d v | none => fr
def zK (T : Tab) (o : LOper) (fr : AFr) (H : zb) : Option (AVal × zb) :=
 match o.guard with
 | none => zn T o.op fr H
 | some (s, want) => match fr s with
  | .p (.bool b) => if b = want then zn T o.op fr H else some (.p (.tup []), H)
  | .p (.tup _) => some (.p (.tup []), H)
  | _ => none
def ce (T : Tab) : List LOper → AFr → zb → Option (AFr × zb)
 | [], fr, H => some (fr, H)
 | o :: r, fr, H => match zK T o fr H with | some (x, H') => ce T r (put fr o.dst x) H' | none => none
def pi (T : Tab) (H : zb) (Q : AFr → Prop) : List LOper → AFr → Prop
 | [], fr => Q fr
 | o :: r, fr => match zK T o fr H with
  | some (x, H') => H' = H ∧ pi T H Q r (put fr o.dst x)
  | none => False
def jn : LOp → Bool
 | .mov _ => true
 | .pick _ _ _ => true
 | .build _ _ => true
 | .bin _ _ _ => true
 | .eqB _ _ _ => true
 | .eqA _ _ _ _ => true
 | .eqS _ _ _ => true
 | .eqI _ _ => true
 | .un _ _ => true
 | .fld _ _ _ _ => true
 | .istr _ _ => true
 | .iarr _ _ _ _ _ => true
 | .ext _ _ => true
 | .lenS _ => true
 | .minmax _ _ _ => true
 | .minmax3 _ _ _ _ => true
 | .slStr _ _ _ => true
 | .mkf _ _ => true
 | .calle _ _ => true
 | _ => false
def z9 : LOp → Bool
 | .load _ _ _ => true
 | .nilc _ => true
 | .fadr _ _ => true
 | .iadr _ _ _ => true
 | .iaadr _ _ _ _ => true
 | .len _ => true
 | .slSl _ _ _ _ _ => true
 | .mget _ _ _ _ => true
 | _ => false
def idxOf : AVal → List Nat
 | .own k _ _ _ => [k]
 | .optr k _ _ _ => [k]
 | .omap k _ => [k]
 | _ => []
def jM (fr : AFr) : LOp → List Nat
 | .load _ _ a => idxOf (opd fr a)
 | .nilc x => idxOf (opd fr x)
 | .fadr _ x => idxOf (opd fr x)
 | .iadr _ x _ => idxOf (opd fr x)
 | .iaadr _ _ x _ => idxOf (opd fr x)
 | .len x => idxOf (opd fr x)
 | .slSl _ x _ _ _ => idxOf (opd fr x)
 | .mget _ _ x _ => idxOf (opd fr x)
 | _ => []
def jv (fr : AFr) : LOp → List Nat
 | .app _ _ _ x y => idxOf (opd fr x) ++ idxOf (opd fr y)
 | _ => []
def qD (W : List Nat) (N : Nat) (o : LOper) (fr : AFr) (H H' : zb) : Prop :=
 if z9 o.op = true then ∀ k ∈ jM fr o.op, k < N ∧ k ∉ W else ∀ k, k < N → k ∉ W → H'[k]? = H[k]?
def jt (N R : Nat) (H M : zb) : zb := H.take N ++ M ++ H.drop (N + R)
def wM (T : Tab) (W : List Nat) (N : Nat) (fl : Fl) (o : LOper) (fr : AFr) (H : zb) (x : AVal) (H' : zb) : Prop := match fl with
 | .s => qD W N o fr H H'
 | .t => ∀ G, zK T o fr G = some (x, G)
 | .a rs => qD W N o fr H H' ∧ ∀ r ∈ rs, N + r < H.length ∧ N + r ∉ jv fr o.op
 | .c R => (N + R ≤ H.length ∧ N + R ≤ H'.length) ∧ qD W N o fr H H' ∧ ∀ M : zb, M.length = R → zK T o fr (jt N R H M) = some (x, jt N R H' M)
 | _ => True
def evalW (T : Tab) (W : List Nat) (N : Nat) (Q : AFr → zb → Prop) : List (LOper × Fl) → AFr → zb → Prop
 | [], fr, H => Q fr H
 | (o, fl) :: r, fr, H => match zK T o fr H with
  | some (x, H') => wM T W N fl o fr H x H' ∧ evalW T W N Q r (put fr o.dst x) H'
  | none => False
def newAt (k : Nat) (op : LOp) (fr : AFr) (H : zb) : Option (AVal × zb) := match op with
 | .newv size ty x =>
  if (opd fr x).cells.length = size ∧ 0 < size ∧ (opd fr x).cells.all AVal.isCell = true then
   match H[k]? with
   | some e => if e.elems.isEmpty = true then some (.optr k (e.ver + 1) 0 0, H.set k ⟨size, e.ver + 1, false, [opd fr x], ty⟩) else none
   | none => none
  else none
 | .buildSl size ty z len parts =>
  if z.cells.length = size ∧ 0 < size ∧ len * size ≤ 16777216 ∧ z.cells.all AVal.isCell = true then
   match zN (opd fr) size (List.replicate len z) parts with
   | some es => match H[k]? with
    | some e => if e.elems.isEmpty = true then some (.own k 0 len (e.ver + 1), H.set k ⟨size, e.ver + 1, false, es, ty⟩) else none
    | none => none
   | none => none
  else none
 | _ => none
def jd (T : Tab) (N : Nat) (fl : Fl) (o : LOper) (fr : AFr) (H : zb) : Option (AVal × zb) := match fl with
 | .n r => newAt (N + r) o.op fr H
 | _ => zK T o fr H
def pg (T : Tab) (W : List Nat) (N : Nat) (Q : AFr → zb → Prop) : List (LOper × Fl) → AFr → zb → Prop
 | [], fr, H => Q fr H
 | (o, fl) :: r, fr, H => match jd T N fl o fr H with
  | some (x, H') => wM T W N fl o fr H x H' ∧ pg T W N Q r (put fr o.dst x) H'
  | none => False
def kept : Ent := ⟨1, 0, false, [], 0⟩
inductive LExit where
 | normal
 | exit (id : Nat)
 | ret
def eB (next : AFr → zb → Prop) (Q : LExit → AFr → zb → Prop) : LExit → AFr → zb → Prop
 | .normal, fr, H => next fr H
 | e, fr, H => Q e fr H
def kv (id : Nat) (Q : LExit → AFr → zb → Prop) : LExit → AFr → zb → Prop
 | .exit j, fr, H => if j = id then Q .normal fr H else Q (.exit j) fr H
 | e, fr, H => Q e fr H
def vc (T : Tab) : LCode → (LExit → AFr → zb → Prop) → AFr → zb → Prop
 | .skip, Q, fr, H => Q .normal fr H
 | .region ops, Q, fr, H => match ce T ops fr H with | some (fr', H') => Q .normal fr' H' | none => False
 | .regionD ops, Q, fr, H => pi T H (fun fr' => Q .normal fr' H) ops fr
 | .regionW ops, Q, fr, H => ∃ W : List Nat, evalW T W H.length (fun fr' H' => Q .normal fr' H') ops fr H
 | .regionN R ops, Q, fr, H => ∃ W : List Nat, pg T W H.length (fun fr' H' => Q .normal fr' H') ops fr (H ++ List.replicate R kept)
 | .seq a b, Q, fr, H => vc T a (eB (fun fr' H' => vc T b Q fr' H') Q) fr H
 | .cond c a b, Q, fr, H => match opd fr c with
  | .p (.bool t) => if t = true then vc T a Q fr H else vc T b Q fr H
  | .anyb => vc T a Q fr H ∧ vc T b Q fr H
  | _ => False
 | .block id b, Q, fr, H => vc T b (kv id Q) fr H
 | .loop b, Q, fr, H => ∃ (I : AFr → zb → Prop) (μ : AFr → zb → Nat), I fr H ∧
   ∀ fr H, I fr H → vc T b (eB (fun fr' H' => I fr' H' ∧ μ fr' H' < μ fr H) Q) fr H
 | .exit id, Q, fr, H => Q (.exit id) fr H
 | .ret, Q, fr, H => Q .ret fr H
 | .bad, _, _, _ => False
def vp : Value → AVal
 | .bool b => .p (.bool b)
 | .int k n => .p (.int k n)
 | .float k b => .p (.flt k b)
 | .complex k a b => .p (.cpx k a b)
 | .string s => if s.data.size ≤ 1000000 then .p (.str s.data.toList) else .junk
 | .pointer a => if a.isNone then .p .nilp else .junk
 | .slice a n c => if a.isNone ∧ n = 0 ∧ c = 0 then .tight [] else .junk
 | .func fn first caps => match fn with
  | .func f => if first.size = 0 ∧ caps.size = 0 then .p (.clo f []) else .junk
  | _ => .junk
 | .nilFunc => .p .nilf
 | .nilIface => .p .nili
 | .map a => if a.isNone then .nilm else .junk
 | _ => .junk
def kP : Value → AVal
 | .agg cs => if (cs.toList.map vp).all AVal.isCell then dj (cs.toList.map vp) else .junk
 | v => vp v
def zY (gl : Nat → AVal) (n : Nat) : Operand → LOpd
 | .tmp t => if t < n then .tmp t else .cst .junk
 | .const v => .cst (kP v)
 | .global g => .cst (gl g)
 | .func f => .cst (.p (.clo f []))
def qY (P : Program) (t : TypeId) : Bool := match P.underlying t with
 | some (.struct _) => true
 | some (.array _ _) => true
 | _ => false
def zh (P : Program) (t : TypeId) : Nat := match P.underlying t with | some _ => (match P.info? t with | some i => i.size | none => 0) | none => 0
def ku (P : Program) (t : TypeId) : Nat := match P.info? t with | some i => i.bytes | none => 0
def qb (P : Program) (t : TypeId) : AVal := match P.info? t with | some i => (match i.zero with | some v => kP v | none => .junk) | none => .junk
def vA (P : Program) (t : TypeId) : Option SK := match P.underlying t with
 | some .bool => some .b
 | some (.int _) => some .i
 | some .string => some .s
 | _ => none
def flatS (P : Program) (t : TypeId) : Option (List SK) := match P.underlying t with
 | some (.struct fields) => if !P.stoodInHeld t && fields.toList.all (fun f => f.name != "_") && (fields.toList.map (·.offset) == List.range fields.size) && !P.eqGuardType P.depth t then
   zP (fun f => vA P f.type) fields.toList
  else none
 | _ => none
def y9 (P : Program) (t : TypeId) : Option TypeId := match P.underlying t with
 | some (.map k e) => match P.underlying k with
  | some (.int .i64) => if (P.info? e).any (fun i => i.zero.isSome) then some e else none
  | _ => none
 | _ => none
def flatR (P : Program) (t : TypeId) : Option (List SK) := match P.underlying t with
 | some (.array len e) => if !P.eqGuardType P.depth t && P.cellsOf e == 1 then
   match vA P e with | some k => some (List.replicate len k) | none => none
  else none
 | _ => none
def flatK (P : Program) (t : TypeId) : Option (List SK) := match flatS P t with | some ks => some ks | none => flatR P t
section
variable (P : Program) (gl : Nat → AVal) (n : Nat)
def jD (b : Builtin) (argTypes : Array TypeId) (x : Operand) : LOp :=
 match b with
 | .len => match argTypes[0]? with
  | some t => match P.underlying t with
   | some .string => .lenS (zY gl n x)
   | some (.slice _) => .len (zY gl n x)
   | _ => .bad
  | none => .bad
 | .real => .re (zY gl n x)
 | .imag => .im (zY gl n x)
 | .clear => match argTypes.toList with
  | [t] => match P.underlying t with
   | some (.slice e) => if (qb P e).cells.length = zh P e ∧ (qb P e).cells.all AVal.isCell = true ∧ zh P e ≠ 0 then .clr (zh P e) (qb P e) (zY gl n x) else .bad
   | _ => .bad
  | _ => .bad
 | _ => .bad
def jC (b : Builtin) (argTypes : Array TypeId) (x y : Operand) : LOp :=
 match b with
 | .append => match argTypes.toList with
  | [t, u] => match P.underlying t with
   | some (.slice e) => if (qb P e).cells.length = zh P e ∧ (qb P e).cells.all AVal.isCell = true then
     (if t = u then .app (zh P e) (ku P e) e (zY gl n x) (zY gl n y) else
      match P.underlying u with
      | some .string => if zh P e = 1 then .appS (ku P e) e (zY gl n x) (zY gl n y) else .bad
      | _ => .bad)
    else .bad
   | _ => .bad
  | _ => .bad
 | .copy => match argTypes.toList with
  | [t, u] => if t = u then (match P.underlying t with
   | some (.slice e) => if zh P e = 0 then .bad else .cpy (zh P e) (zY gl n x) (zY gl n y)
   | _ => .bad) else .bad
  | _ => .bad
 | .max => .minmax true (zY gl n x) (zY gl n y)
 | .min => .minmax false (zY gl n x) (zY gl n y)
 | .complex => .mkc (zY gl n x) (zY gl n y)
 | _ => .bad
def jB (b : Builtin) (x y z : Operand) : LOp :=
 match b with
 | .max => .minmax3 true (zY gl n x) (zY gl n y) (zY gl n z)
 | .min => .minmax3 false (zY gl n x) (zY gl n y) (zY gl n z)
 | _ => .bad
def kq (b : Builtin) (argTypes : Array TypeId) (args : List Operand) : LOp :=
 match args with
 | [x] => jD P gl n b argTypes x
 | [x, y] => jC P gl n b argTypes x y
 | [x, y, z] => jB gl n b x y z
 | _ => .bad
def ju (f : FuncId) : Bool := match P.funcs[f]? with
 | some fn => !(fn.name == "runtime.NumGoroutine") && !fn.body.isNone
 | none => false
def oh : Operand → Bool
 | .const (.slice none 0 0) => true
 | _ => false
def og : Operand → Bool
 | .const .nilIface => true
 | _ => false
def bU (o : Op) : LOp :=
 let d := zY gl n
 match o with
 | .move x => .mov (d x)
 | .assign x => .mov (d x)
 | .pick c a b => .pick (d c) (d a) (d b)
 | .box e x => .newv (zh P e) e (d x)
 | .alloc e => .newv (zh P e) e (.cst (qb P e))
 | .build t parts => match P.underlying t with
  | some (.struct fields) => if fields.toList.all (fun f => (P.underlying f.type).isSome) then .build (qb P t) (parts.toList.map fun (i, x) => match fields[i]? with | some f => (f.offset, zh P f.type, d x) | none => (0, 0, .cst .junk)) else .bad
  | some (.array _ e) => if (P.underlying e).isSome then .build (qb P t) (parts.toList.map fun (i, x) => (i * zh P e, zh P e, d x)) else .bad
  | _ => .bad
 | .buildSlice t len parts => match P.underlying t with
  | some (.slice e) => .buildSl (zh P e) e (qb P e) len (parts.toList.map fun (i, x) => (i, d x))
  | _ => .bad
 | .load t a => if (P.underlying t).isSome then .load (zh P t) (qY P t) (d a) else .bad
 | .store t a x => if (P.underlying t).isSome then .store (zh P t) (d a) (d x) else .bad
 | .nilCheck x => .nilc (d x)
 | .binOp op t x y _ => match op with
  | .eql => match P.underlying t with
   | some .bool => .eqB false (d x) (d y)
   | some (.int _) => .bin .eql (d x) (d y)
   | some .string => .bin .eql (d x) (d y)
   | some (.float _) => .bin .eql (d x) (d y)
   | some (.complex _) => .bin .eql (d x) (d y)
   | _ => match flatK P t with
    | some ks => .eqA false ks (d x) (d y)
    | none => match P.underlying t with
     | some (.pointer _) => .eqN false false (d x) (d y)
     | some (.func _ _ _) => .eqN false true (d x) (d y)
     | some (.slice _) => if oh y then .eqS false (d x) (d y) else .bad
     | some (.interface _) => if og y then .eqI false (d x) else .bad
     | _ => .bad
  | .neq => match P.underlying t with
   | some .bool => .eqB true (d x) (d y)
   | some (.int _) => .bin .neq (d x) (d y)
   | some .string => .bin .neq (d x) (d y)
   | some (.float _) => .bin .neq (d x) (d y)
   | some (.complex _) => .bin .neq (d x) (d y)
   | _ => match flatK P t with
    | some ks => .eqA true ks (d x) (d y)
    | none => match P.underlying t with
     | some (.pointer _) => .eqN true false (d x) (d y)
     | some (.func _ _ _) => .eqN true true (d x) (d y)
     | some (.slice _) => if oh y then .eqS true (d x) (d y) else .bad
     | some (.interface _) => if og y then .eqI true (d x) else .bad
     | _ => .bad
  | op => .bin op (d x) (d y)
 | .unOp op _ x => .un op (d x)
 | .convert s t x => match P.underlying s, P.underlying t with
  | some (.int _), some (.int k) => .conv (.toInt k) (d x)
  | some (.int _), some (.float k) => .conv (.i2f k) (d x)
  | some (.float _), some (.int k) => .conv (.f2i k) (d x)
  | some .string, some .string => .conv .same (d x)
  | some .string, some (.slice e) => (match P.underlying e with | some (.int .u8) => .conv .s2b (d x) | _ => .bad)
  | some (.slice _), some (.slice e) => if s = t then (match P.underlying e with | some (.int .u8) => .conv .mark (d x) | _ => .bad) else .bad
  | some (.slice e), some .string => (match P.underlying e with | some (.int .u8) => .conv .b2s (d x) | _ => .bad)
  | _, _ => .bad
 | .makeFunc fn first caps => match fn with
  | .func f => if first.size = 0 then .mkf f (caps.toList.map d) else .bad
  | _ => .bad
 | .makeSlice t l c => match P.underlying t with
  | some (.slice e) => .mksl (zh P e) (ku P e) e (qb P e) (d l) (d c)
  | _ => .bad
 | .slice t x lo hi mx => match P.underlying t with
  | some .string => if mx.isNone then .slStr (d x) (lo.map d) (hi.map d) else .bad
  | some (.slice e) => if zh P e = 0 then .bad else .slSl (zh P e) (d x) (lo.map d) (hi.map d) (mx.map d)
  | _ => .bad
 | .fieldAddr t x f => match P.underlying t with
  | some (.struct fields) => match fields[f]? with
   | some g => if zh P g.type = 0 then .bad else .fadr g.offset (d x)
   | none => .bad
  | _ => .bad
 | .field t x f => match P.underlying t with
  | some (.struct fields) => match fields[f]? with
   | some g => if (P.underlying g.type).isSome then .fld g.offset (zh P g.type) (qY P g.type) (d x) else .bad
   | none => .bad
  | _ => .bad
 | .indexAddr t x i => match P.underlying t with
  | some (.slice e) => if zh P e = 0 then .bad else .iadr (zh P e) (d x) (d i)
  | some (.array len e) => if zh P e = 0 then .bad else .iaadr len (zh P e) (d x) (d i)
  | _ => .bad
 | .index t x i => match P.underlying t with
  | some .string => .istr (d x) (d i)
  | some (.array len e) => if (P.underlying e).isSome then .iarr len (zh P e) (qY P e) (d x) (d i) else .bad
  | _ => .bad
 | .makeMap _ r => match r with
  | none => .mkm
  | some _ => .bad
 | .lookup t x k ok => match y9 P t with
  | some e => .mget ok (qb P e) (d x) (d k)
  | none => .bad
 | .mapUpdate t m k x => match y9 P t with
  | some _ => .mset (d m) (d k) (d x)
  | none => .bad
 | .insert t m k x => match y9 P t with
  | some _ => .mset (d m) (d k) (d x)
  | none => .bad
 | .extract x i => .ext (d x) i
 | .call cl => match cl.callee with
  | .value o => match o with
   | .func f => if ju P f then .call f (cl.args.toList.map d) else .calle f (cl.args.toList.map d)
   | y => .callv (d y) (cl.args.toList.map d)
  | .builtin b => kq P gl n b cl.argTypes cl.args.toList
  | _ => .bad
 | _ => .bad
def bV (ops : Array Oper) : Option (Nat × Bool) → Option (Option (Nat × Bool))
 | none => some none
 | some (j, want) => match (ops[j]?).bind (·.dst) with
  | some s => if s < n then some (some (s, want)) else none
  | none => none
def zg (ops : Array Oper) (o : Oper) : LOper :=
 match bV n ops o.guard with
 | some g => ⟨o.dst, g, bU P gl n o.op⟩
 | none => ⟨o.dst, none, .bad⟩
def zx : LOpd → List Nat
 | .tmp t => [t]
 | .cst _ => []
def yk : Option LOpd → List Nat
 | none => []
 | some x => zx x
def yQ : LOp → List Nat
 | .mov x => zx x
 | .pick c a b => zx c ++ zx a ++ zx b
 | .newv _ _ x => zx x
 | .build _ parts => parts.flatMap fun p => zx p.2.2
 | .buildSl _ _ _ _ parts => parts.flatMap fun p => zx p.2
 | .load _ _ a => zx a
 | .store _ a x => zx a ++ zx x
 | .nilc x => zx x
 | .bin _ x y => zx x ++ zx y
 | .eqB _ x y => zx x ++ zx y
 | .eqA _ _ x y => zx x ++ zx y
 | .eqN _ _ x y => zx x ++ zx y
 | .eqS _ x y => zx x ++ zx y
 | .eqI _ x => zx x
 | .un _ x => zx x
 | .conv _ x => zx x
 | .mkf _ caps => caps.flatMap zx
 | .mksl _ _ _ _ l c => zx l ++ zx c
 | .slStr x lo hi => zx x ++ yk lo ++ yk hi
 | .slSl _ x lo hi mx => zx x ++ yk lo ++ yk hi ++ yk mx
 | .fadr _ x => zx x
 | .fld _ _ _ x => zx x
 | .iadr _ x i => zx x ++ zx i
 | .iaadr _ _ x i => zx x ++ zx i
 | .istr x i => zx x ++ zx i
 | .iarr _ _ _ x i => zx x ++ zx i
 | .ext x _ => zx x
 | .call _ args => args.flatMap zx
 | .calle _ args => args.flatMap zx
 | .callv x args => zx x ++ args.flatMap zx
 | .lenS x => zx x
 | .len x => zx x
 | .app _ _ _ x y => zx x ++ zx y
 | .appS _ _ x y => zx x ++ zx y
 | .cpy _ x y => zx x ++ zx y
 | .clr _ _ x => zx x
 | .minmax _ x y => zx x ++ zx y
 | .minmax3 _ x y z => zx x ++ zx y ++ zx z
 | .re x => zx x
 | .im x => zx x
 | .mkc x y => zx x ++ zx y
 | .mkm => []
 | .mget _ _ x k => zx x ++ zx k
 | .mset x k v => zx x ++ zx k ++ zx v
 | .bad => []
def kp (o : LOper) : List Nat := yQ o.op ++ (match o.guard with | some (s, _) => [s] | none => [])
def dstIn (o : LOper) (l : List Nat) : Bool := match o.dst with | some d => l.contains d | none => false
def kQ (x y : LOper) : Bool := !dstIn x (kp y) && !dstIn y (kp x) && !(x.dst.isSome && x.dst == y.dst)
def oz (ops : Array Oper) (listed : Array Bool) (k : Nat) : Bool :=
 (List.range ops.size).all fun j => j == k || listed.getD j true || ((ops[j]?).map fun o => o.after.any fun e => Region.binds .any e && e.on == k).getD false ||
  (match ops[k]?, ops[j]? with | some ok, some oj => kQ (zg P gl n ops ok) (zg P gl n ops oj) | _, _ => false)
def nS (ops : Array Oper) : Nat → Nat → Array Bool → Bool
 | 0, _, listed => (Region.ready .any ops listed).isEmpty
 | m + 1, k, listed => (Region.ready .any ops listed).contains k && oz P gl n ops listed k && nS ops m (k + 1) (listed.setIfInBounds k true)
def dQ (ops : Array Oper) : Bool := nS P gl n ops ops.size 0 (Array.replicate ops.size false)
def bJ (x y : LOper) : Bool := (z9 x.op && !jn y.op && !z9 y.op) || (z9 y.op && !jn x.op && !z9 x.op)
def wW : LOp → Bool
 | .call _ _ => true
 | .callv _ _ => true
 | _ => false
def lu (x : LOper) : Bool := !jn x.op && !z9 x.op
def jL (x y : LOper) : Bool := lu x && lu y && (wW x.op || wW y.op)
def ancE (acc : List Nat) (m : Nat) (e : Edge) : Nat := if Region.binds .any e then m ||| (1 <<< e.on) ||| acc.getD e.on 0 else m
def ancOf (acc : List Nat) (o : Oper) : Nat := o.after.toList.foldl (ancE acc) 0
def ancs : List Oper → List Nat → List Nat
 | [], acc => acc
 | o :: r, acc => ancs r (acc ++ [ancOf acc o])
def nt (ops : Array Oper) : List Nat := ancs ops.toList []
def behind (anc : List Nat) (j k : Nat) : Bool := (anc.getD j 0).testBit k
def uz (p : LOper → LOper → Bool) (ops : Array Oper) (k : Nat) : Bool :=
 (List.range ops.size).any fun j => j != k && (match ops[k]?, ops[j]? with
  | some ok, some oj => p (zg P gl n ops ok) (zg P gl n ops oj) && !behind (nt ops) k j && !behind (nt ops) j k
  | _, _ => false)
def qp (x : LOper) : Bool := (match x.op with | .newv _ _ _ => true | .buildSl _ _ _ len _ => decide (0 < len) | _ => false) && x.guard.isNone
def nr (x : LOper) : Bool := (match x.op with | .app _ _ _ _ _ => true | _ => false) && x.guard.isNone
def zT (ops : Array Oper) (j : Nat) : Bool := match ops[j]? with | some o => qp (zg P gl n ops o) | none => false
def zt (ops : Array Oper) (k : Nat) : Nat := (List.range k).countP (zT P gl n ops)
def q8 (ops : Array Oper) (k : Nat) : List Nat :=
 ((List.range ops.size).filter fun j => j != k && zT P gl n ops j && !behind (nt ops) k j && !behind (nt ops) j k).map (zt P gl n ops)
def yy (ops : Array Oper) (j : Nat) : Bool := match ops[j]? with | some o => nr (zg P gl n ops o) | none => false
def zv (b : Bool) (ops : Array Oper) (k : Nat) : Fl :=
 if (b && zT P gl n ops k) = true then .n (zt P gl n ops k) else
 if (b && yy P gl n ops k && !(q8 P gl n ops k).isEmpty) = true then .a (q8 P gl n ops k) else
 if uz P gl n (fun x y => wW x.op && jL x y && !(b && qp y)) ops k = true then .t else if (b && uz P gl n (fun x y => wW x.op && jL x y) ops k) = true then .c (zt P gl n ops ops.size) else if uz P gl n bJ ops k = true then .s else .f
def pS (b : Bool) (x y : LOper) : Bool := jn x.op || jn y.op || (z9 x.op && z9 y.op) || bJ x y || jL x y || (b && qp x && qp y) || (b && qp x && nr y) || (b && nr x && qp y)
def ow (b : Bool) (ops : Array Oper) (listed : Array Bool) (k : Nat) : Bool :=
 (List.range ops.size).all fun j => j == k || listed.getD j true || behind (nt ops) j k ||
  (match ops[k]?, ops[j]? with | some ok, some oj => kQ (zg P gl n ops ok) (zg P gl n ops oj) && pS b (zg P gl n ops ok) (zg P gl n ops oj) | _, _ => false)
def sO (b : Bool) (ops : Array Oper) : Nat → Nat → Array Bool → Bool
 | 0, _, listed => (Region.ready .any ops listed).isEmpty
 | m + 1, k, listed => (Region.ready .any ops listed).contains k && ow P gl n b ops listed k && sO b ops m (k + 1) (listed.setIfInBounds k true)
def vW (b : Bool) (ops : Array Oper) : Bool := sO P gl n b ops ops.size 0 (Array.replicate ops.size false)
def pJ : LOp → Bool
 | .store _ _ _ => true
 | .newv _ _ _ => true
 | .buildSl _ _ _ _ _ => true
 | .mksl _ _ _ _ _ _ => true
 | .app _ _ _ _ _ => true
 | .appS _ _ _ _ => true
 | .cpy _ _ _ => true
 | .clr _ _ _ => true
 | .mkm => true
 | .mset _ _ _ => true
 | _ => false
def wi (b : Bool) (ops : Array Oper) (k : Nat) (l : List Oper) : List (LOper × Fl) := match l with
 | [] => []
 | o :: r => (zg P gl n ops o, zv P gl n b ops k) :: wi b ops (k + 1) r
def zJ : Code → LCode
 | .skip => .skip
 | .region _ ops draw => if draw then (if ops.toList.any (fun o => pJ (bU P gl n o.op)) then (if vW P gl n false ops then .regionW (wi P gl n false ops 0 ops.toList) else if vW P gl n true ops then .regionN (zt P gl n ops ops.size) (wi P gl n true ops 0 ops.toList) else .bad) else if dQ P gl n ops then .regionD (ops.toList.map (zg P gl n ops)) else .bad) else .region (ops.toList.map (zg P gl n ops))
 | .seq a b => .seq (zJ a) (zJ b)
 | .cond c a b => .cond (zY gl n c) (zJ a) (zJ b)
 | .block id b => .block id (zJ b)
 | .loop b => .loop (zJ b)
 | .exit id => .exit id
 | .ret => .ret
 | _ => .bad
def jV (n : Nat) : ResultVar → Option LRes
 | .tmp t => if t < n then some (.slot t) else none
 | .cell a t => if a < n ∧ (P.underlying t).isSome = true then some (.cell a (zh P t) (qY P t)) else none
def zf (f : FuncId) : Option LFunc := match P.funcs[f]? with
 | some fn => if ju P f then match fn.body with
  | some code => match zP (jV P fn.ntmps) fn.results.toList with
   | some rs => some ⟨fn.ntmps, rs, zJ P gl fn.ntmps code⟩
   | none => none
  | none => none
  else none
 | none => none
end
def qT (T : Tab) (fr : AFr) (H : zb) : LRes → Option AVal
 | .slot t => some (fr t)
 | .cell t n ag => match zn T (.load n ag (.tmp t)) fr H with | some (x, _) => some x | none => none
def finish (T : Tab) (rs : List LRes) (fr : AFr) (H : zb) : Option AVal :=
 match zP (qT T fr H) rs with
 | some [x] => some x
 | some xs => (match j3 xs with | some ps => some (.p (.tup ps)) | none => some (.tup xs))
 | none => none
def gY (T : Tab) (rs : List LRes) (fr : AFr) (H : zb) : Option PVal := match finish T rs fr H with
 | some x => zj H fuel x
 | none => none
def oH (T : Tab) (rs : List LRes) (x : PVal) : LExit → AFr → zb → Prop
 | .exit _, _, _ => False
 | _, fr, H => gY T rs fr H = some x
def zV (args : List AVal) : AFr := fun i => match args[i]? with | some x => x | none => .p (.tup [])
def za (s : List PVal → Option PVal) (args : List PVal) : Option (AVal × zb) := match s args with | some x => some (.p x, []) | none => none
end Go.Abs

namespace Go.Abs
variable {P : Program} {base : Prot}
theorem PVal.isCell_cells {x : PVal} (h : x.isCell = true) : x.cells = [x] := by
 cases x <;> simp_all [PVal.isCell, PVal.cells]
theorem AVal.isCell_cells {x : AVal} (h : x.isCell = true) : x.cells = [x] := by
 cases x with
 | p y => simp only [AVal.isCell] at h; simp [AVal.cells, PVal.isCell_cells h]
 | _ => simp_all [AVal.isCell, AVal.cells]
theorem PRep.one {pr : Prot} {x : PVal} {v : Value} (r : PRep pr x v) (h : x.isCell = true) : v.oneCell' = true ∧ v.cells = #[v] := by
 cases r <;> simp_all [PVal.isCell, Value.oneCell', Value.cells]
theorem Rep.one {c : Ctx} {x : AVal} {v : Value} (r : Rep c x v) (h : x.isCell = true) : v.oneCell' = true ∧ v.cells = #[v] := by
 cases r with
 | p x v hp => exact hp.one (by simpa [AVal.isCell] using h)
 | own k off len ver l v hl hv hh ho => obtain ⟨a, n, m, rfl⟩ := ho; simp [Value.oneCell', Value.cells]
 | optr k ver i off l v hl hv hh ho => obtain ⟨a, rfl⟩ := ho; simp [Value.oneCell', Value.cells]
 | omap k ver l v hl hv hh ho => obtain ⟨a, rfl⟩ := ho; simp [Value.oneCell', Value.cells]
 | _ => simp_all [AVal.isCell, Value.oneCell', Value.cells]
def RepC (c : Ctx) (l : List AVal) (vs : List Value) : Prop := RepL c l vs ∧ ∀ x ∈ l, x.isCell = true
theorem RepC.step {c c' : Ctx} {w w' : World} (h : Step c w c' w') {xs : List AVal} {vs : List Value} (r : RepC c xs vs) : RepC c' xs vs := ⟨r.1.step h, r.2⟩
theorem RepL.nil (c : Ctx) : RepL c [] [] := ⟨rfl, fun j x v h => by simp at h⟩
theorem RepL.cons {c : Ctx} {x : AVal} {v : Value} {l : List AVal} {vs : List Value} (h : Rep c x v) (r : RepL c l vs) : RepL c (x :: l) (v :: vs) := by
 refine ⟨by simp [r.1], fun j y u h1 h2 => ?_⟩
 cases j with
 | zero => simp at h1 h2; subst h1; subst h2; exact h
 | succ j => exact r.2 j y u (by simpa using h1) (by simpa using h2)
theorem RepL.append {c : Ctx} {l l' : List AVal} {vs vs' : List Value} (r : RepL c l vs) (r' : RepL c l' vs') : RepL c (l ++ l') (vs ++ vs') := by
 refine ⟨by simp [r.1, r'.1], fun j y u h1 h2 => ?_⟩
 by_cases hj : j < l.length
 ·rw [List.getElem?_append_left hj] at h1
  rw [List.getElem?_append_left (by rw [r.1]; exact hj)] at h2
  exact r.2 j y u h1 h2
 ·rw [List.getElem?_append_right (by omega)] at h1
  rw [List.getElem?_append_right (by rw [r.1]; omega), r.1] at h2
  exact r'.2 _ y u h1 h2
theorem RepL.drop {c : Ctx} {l : List AVal} {vs : List Value} (r : RepL c l vs) (n : Nat) : RepL c (l.drop n) (vs.drop n) :=
 ⟨by simp [r.1], fun j y u h1 h2 => r.2 (n + j) y u (by simpa using h1) (by simpa using h2)⟩
theorem RepL.take {c : Ctx} {l : List AVal} {vs : List Value} (r : RepL c l vs) (n : Nat) : RepL c (l.take n) (vs.take n) := by
 refine ⟨by simp [r.1], fun j y u h1 h2 => ?_⟩
 rw [List.getElem?_take] at h1 h2
 split at h1
 ·rename_i hj; simp only [hj, if_true] at h2; exact r.2 j y u h1 h2
 ·cases h1
theorem RepL.set {c : Ctx} {l : List AVal} {vs : List Value} {x : AVal} {v : Value} (r : RepL c l vs) (h : Rep c x v) (i : Nat) : RepL c (l.set i x) (vs.set i v) := by
 refine ⟨by simp [r.1], fun j y u h1 h2 => ?_⟩
 rw [List.getElem?_set] at h1 h2
 by_cases hij : i = j
 ·subst hij
  simp only [if_true] at h1 h2
  split at h1
  ·rename_i hl; rw [r.1] at h2; simp only [hl, if_true] at h2; cases h1; cases h2; exact h
  ·cases h1
 ·simp only [hij, if_false] at h1 h2; exact r.2 j y u h1 h2
theorem RepC.append {c : Ctx} {l l' : List AVal} {vs vs' : List Value} (r : RepC c l vs) (r' : RepC c l' vs') : RepC c (l ++ l') (vs ++ vs') :=
 ⟨r.1.append r'.1, fun x hx => by rcases List.mem_append.1 hx with h | h; exact r.2 x h; exact r'.2 x h⟩
theorem RepC.drop {c : Ctx} {l : List AVal} {vs : List Value} (r : RepC c l vs) (n : Nat) : RepC c (l.drop n) (vs.drop n) := ⟨r.1.drop n, fun x hx => r.2 x (List.mem_of_mem_drop hx)⟩
theorem RepC.take {c : Ctx} {l : List AVal} {vs : List Value} (r : RepC c l vs) (n : Nat) : RepC c (l.take n) (vs.take n) := ⟨r.1.take n, fun x hx => r.2 x (List.mem_of_mem_take hx)⟩
theorem RepC.ones {c : Ctx} {l : List AVal} {vs : List Value} (r : RepC c l vs) : ∀ v ∈ vs, v.oneCell' = true := by
 intro v hv
 obtain ⟨j, hj, rfl⟩ := List.getElem_of_mem hv
 have hl : j < l.length := by rw [← r.1.1]; exact hj
 exact ((r.1.2 j l[j] vs[j] (by simp) (by simp)).one (r.2 _ (List.getElem_mem hl))).1
theorem Rep.cells {c : Ctx} {x : AVal} {v : Value} (r : Rep c x v) (h : ∀ y ∈ x.cells, y.isCell = true) : RepC c x.cells v.cells.toList := by
 refine ⟨?_, h⟩
 have single : x.isCell = true → RepL c x.cells v.cells.toList := fun hc => by
  rw [AVal.isCell_cells hc, (r.one hc).2]
  exact .cons r (.nil c)
 cases r with
 | junk v => simp [AVal.cells, AVal.isCell] at h
 | p x v hp =>
  by_cases hc : x.isCell = true
  ·exact single (by simpa [AVal.isCell] using hc)
  ·cases hp with
   | agg cells vs hl hr hk =>
    simp only [AVal.cells, PVal.cells, Value.cells]
    refine ⟨by simp [hl], fun j y u h1 h2 => ?_⟩
    rw [List.getElem?_map] at h1
    obtain ⟨z, hz, rfl⟩ := Option.map_eq_some_iff.1 h1
    exact .p _ _ (hr j z u hz (by simpa using h2))
   | tup l vs hl hr =>
    have := h (.p (.tup l)) (by simp [AVal.cells, PVal.cells])
    simp [AVal.isCell, PVal.isCell] at this
   | _ => simp [PVal.isCell] at hc
 | agg cells vs hl hr hk =>
  exact ⟨by simp [AVal.cells, Value.cells, hl], fun j y u h1 h2 => hr j y u h1 (by simpa [Value.cells] using h2)⟩
 | tup l vs hl hr =>
  have := h (.tup l) (by simp [AVal.cells])
  simp [AVal.isCell] at this
 | _ => exact single (by simp [AVal.isCell])
theorem jG : ∀ {l : List AVal} {ps : List PVal}, j3 l = some ps → l = ps.map .p
 | [], ps, h => by simp [j3] at h; subst h; rfl
 | x :: r, ps, h => by
  cases x <;> simp only [j3] at h <;> try cases h
  rename_i y
  cases hr : j3 r with
  | none => simp [hr] at h
  | some qs => simp [hr] at h; subst h; simp [jG hr]
theorem mQ {c : Ctx} {l : List AVal} {vs : List Value} (r : RepC c l vs) : Rep c (dj l) (.agg vs.toArray) := by
 unfold dj
 cases h : j3 l with
 | none => exact .agg l vs r.1.1 r.1.2 r.2
 | some ps =>
  have := jG h
  subst this
  refine .p _ _ (.agg ps vs (by simpa using r.1.1) (fun j x v h1 h2 => ?_) (fun x hx => by simpa [AVal.isCell] using r.2 (.p x) (by simpa using hx)))
  have := r.1.2 j (.p x) v (by simp [h1]) h2
  cases this; assumption
theorem aP {l : List AVal} : (dj l).cells = l := by
 unfold dj
 cases h : j3 l with
 | none => rfl
 | some ps => simp [AVal.cells, PVal.cells, jG h]
theorem u4 {c : Ctx} {l : List AVal} {vs : List Value} {ag : Bool} {x : AVal} (r : RepC c l vs) (h : vj ag l = some x) :
  ∃ v, Rep c x v ∧ (if ag = true then v = .agg vs.toArray else vs = [v]) := by
 unfold vj at h
 cases ag with
 | true => simp at h; subst h; exact ⟨_, mQ r, by simp⟩
 | false =>
  simp only [Bool.false_eq_true, if_false] at h
  match l, vs, r, h with
  | [y], [v], r, h => simp at h; subst h; exact ⟨v, r.1.2 0 _ v rfl rfl, by simp⟩
  | [y], [], r, h => have := r.1.1; simp at this
  | [y], v :: u :: vs, r, h => have := r.1.1; simp at this
theorem bX {t : TypeId} {d : TypeDesc} (h : P.underlying t = some d) : ∃ i, P.info? t = some i := by
 unfold Program.underlying at h
 cases hi : P.info? t with
 | none => simp [hi] at h
 | some i => exact ⟨i, rfl⟩
theorem cD {t : TypeId} {d : TypeDesc} (h : P.underlying t = some d) (w : World) : (Go.isAgg t).run P w = .ok (qY P t) w := by
 unfold Go.isAgg qY
 simp only [Sem.run_bind, run_underlying h, h, Result.andThen_ok]
 cases d <;> simp [Sem.run_pure]
theorem qy {t : TypeId} {d : TypeDesc} (h : P.underlying t = some d) (w : World) : (sizeOf t).run P w = .ok (zh P t) w := by
 obtain ⟨i, hi⟩ := bX h
 simp [sizeOf, typeInfo, hi, zh, h]
theorem qv {t : TypeId} (h : zh P t ≠ 0) : ∃ d, P.underlying t = some d := by
 unfold zh at h
 cases hu : P.underlying t with
 | none => simp [hu] at h
 | some d => exact ⟨d, rfl⟩
theorem bK {t : TypeId} {d : TypeDesc} (h : P.underlying t = some d) (w : World) (a : Addr) (vs : List Value) (hn : vs.length = zh P t)
  (hc : ∀ (j : Nat) v, vs[j]? = some v → w.cell? (a.add j) = some v) (v : Value) (hv : if qY P t = true then v = .agg vs.toArray else vs = [v]) :
  (loadVar t a).run P w = .ok v w := by
 unfold loadVar
 simp only [Sem.run_bind, cD h, Result.andThen_ok]
 cases hb : qY P t with
 | true =>
  simp only [hb, if_true] at hv ⊢
  subst hv
  simp only [Sem.run_bind, qy h, Result.andThen_ok, ← hn, run_loadCells_list (P := P) w a vs hc, Sem.run_pure]
 | false =>
  simp only [hb, Bool.false_eq_true, if_false] at hv ⊢
  subst hv
  have := hc 0 v rfl
  rw [Addr.add_zero'] at this
  simp [run_load, this]
end Go.Abs

namespace Go.Abs
variable {P : Program} {base : Prot}
theorem Inv.loc {c : Ctx} {H : zb} {w : World} (hI : Inv base c H w) {k : Nat} {e : Ent} (h : H[k]? = some e) : ∃ l, c.locs[k]? = some l ∧ EntOk c w e l := by
 have hk : k < c.locs.length := by rw [hI.len]; exact (List.getElem?_eq_some_iff.1 h).1
 exact ⟨c.locs[k], by simp, hI.ent k e _ h (by simp)⟩
theorem Inv.entOf {c : Ctx} {H : zb} {w : World} (hI : Inv base c H w) {k : Nat} {l : Loc} (h : c.locs[k]? = some l) : ∃ e, H[k]? = some e ∧ EntOk c w e l := by
 have hk : k < H.length := by rw [← hI.len]; exact (List.getElem?_eq_some_iff.1 h).1
 exact ⟨H[k], by simp, hI.ent k _ l (by simp) h⟩
theorem Inv.loced_lt {c : Ctx} {H : zb} {w : World} (hI : Inv base c H w) {b : Nat} (h : mC c b) : b < w.heap.size := by
 obtain ⟨k, l, cap, h1, h2⟩ := h
 obtain ⟨e, _, he⟩ := hI.entOf h1
 cases hm : l.mp with
 | false => obtain ⟨cur, ty, hh, _⟩ := he.there b cap h2 hm; exact (Array.getElem?_eq_some_iff.1 hh).1
 | true => obtain ⟨es, ck, hh, _⟩ := he.mapped b cap h2 hm; exact (Array.getElem?_eq_some_iff.1 hh).1
theorem EntOk.arr {c : Ctx} {w : World} {e : Ent} {l : Loc} (h : EntOk c w e l) {g cap : Nat} (hl : l.place = some (g, cap)) {cur : Array Value} {ty : TypeId} {fr : Nat × Nat} (hh : w.heap[g]? = some (.cells cur ty fr)) : l.mp = false := by
 cases hm : l.mp with
 | false => rfl
 | true => obtain ⟨es, ck, h1, _⟩ := h.mapped g cap hl hm; rw [hh] at h1; cases h1
theorem Inv.prot_lt {c : Ctx} {H : zb} {w : World} (hI : Inv base c H w) {b o : Nat} {v : Value} (h : c.prot b o = some v) : b < w.heap.size :=
 World.block_lt_of_cell? w _ (hI.prot b o v h)
theorem EntOk.keep {c c' : Ctx} {w w' : World} {e : Ent} {l : Loc} (h : EntOk c w e l) (hs : Step c w c' w')
  (hb : ∀ g cap, l.place = some (g, cap) → w'.heap[g]? = w.heap[g]?) (hp : ∀ g cap o v, l.place = some (g, cap) → c'.prot g o = some v → c.prot g o = some v) : EntOk c' w' e l where
 ver := h.ver
 size := h.size
 pos := h.pos
 cells := h.cells
 nowhere := h.nowhere
 typed := fun g cap cur ty fr hl hh => h.typed g cap cur ty fr hl ((hb g cap hl).symm.trans hh)
 mapped := fun g cap hl hm => by
  obtain ⟨es, ck, h1, h2, h3⟩ := h.mapped g cap hl hm
  exact ⟨es, ck, (hb g cap hl).trans h1, h2, fun i x a => let ⟨me, k, y, p, q, r, s⟩ := h3 i x a; ⟨me, k, y, p, q, r, s.mono hs.prot⟩⟩
 there := fun g cap hl hm => by
  obtain ⟨cur, ty, h1, h2, h3, h4, h5, h6⟩ := h.there g cap hl hm
  exact ⟨cur, ty, (hb g cap hl).trans h1, h2, h3, h4, fun i x j y a b => let ⟨v, p, q⟩ := h5 i x j y a b; ⟨v, p, q.step hs⟩, fun o v ho => h6 o v (hp g cap o v hl ho)⟩
theorem cell_of_heap {w w' : World} {b o : Nat} (h : w'.heap[b]? = w.heap[b]?) : w'.cell? ⟨b, o, none⟩ = w.cell? ⟨b, o, none⟩ := World.cell?_of_block (a := ⟨b, o, none⟩) h
structure Grew (w w' : World) : Prop where
 os : w'.os = w.os
 tape : w'.tape = w.tape
 output : w'.output = w.output
 size : w.heap.size ≤ w'.heap.size
 blk : ∀ b, b < w.heap.size → w'.heap[b]? = w.heap[b]?
theorem Grew.refl (w : World) : Grew w w := ⟨rfl, rfl, rfl, Nat.le_refl _, fun _ _ => rfl⟩
theorem Grew.drew (w : World) : Grew w w.drew := ⟨rfl, rfl, rfl, Nat.le_refl _, fun _ _ => rfl⟩
theorem Grew.alloc {a w : World} (h : Grew a w) (o : Obj) : Grew a (w.alloc o) :=
 ⟨h.os, h.tape, h.output, by rw [World.size_alloc]; exact Nat.le_succ_of_le h.size, fun b hb => (heap_alloc_old w o (Nat.lt_of_lt_of_le hb h.size)).trans (h.blk b hb)⟩
theorem Grew.step {w w' : World} (c : Ctx) (h : Grew w w') : Step c w c w' :=
 ⟨fun _ _ _ h => h, fun _ l h => ⟨l, h, Nat.le_refl _, fun _ => rfl⟩, h.os, h.tape, h.output, h.size, fun b hb _ => h.blk b hb, fun _ h => .inl h, fun _ _ _ h => .inl h⟩
theorem Inv.grew {c : Ctx} {H : zb} {w w' : World} (hI : Inv base c H w) (h : Grew w w') : Inv base c H w' where
 base := hI.base
 len := hI.len
 prot := fun b o v hv => by rw [cell_of_heap (h.blk b (hI.prot_lt hv))]; exact hI.prot b o v hv
 ent := fun k e l h1 h2 => (hI.ent k e l h1 h2).keep (h.step c) (fun g cap hl => h.blk g (hI.loced_lt ⟨k, l, cap, h2, hl⟩)) (fun _ _ _ _ _ h => h)
 inj := hI.inj
theorem Inv.promise {c : Ctx} {H : zb} {w w' : World} (hI : Inv base c H w) (h : Grew w w') (pr : Prot) (hle : Prot.le c.prot pr)
  (hnew : ∀ b o v, pr b o = some v → c.prot b o = some v ∨ (w.heap.size ≤ b ∧ w'.cell? ⟨b, o, none⟩ = some v)) : Step c w ⟨c.locs, pr⟩ w' ∧ Inv base ⟨c.locs, pr⟩ H w' := by
 have hs : Step c w ⟨c.locs, pr⟩ w' := ⟨hle, fun _ l h => ⟨l, h, Nat.le_refl _, fun _ => rfl⟩, h.os, h.tape, h.output, h.size, fun b hb _ => h.blk b hb, fun _ h => .inl h,
  fun b o v hv => by rcases hnew b o v hv with h1 | h1; exact .inl h1; exact .inr (.inl h1.1)⟩
 refine ⟨hs, ⟨fun b o v hv => hle _ _ _ (hI.base b o v hv), hI.len, fun b o v hv => ?_, fun k e l h1 h2 => ?_, hI.inj⟩⟩
 ·rcases hnew b o v hv with h1 | h1
  ·rw [cell_of_heap (h.blk b (hI.prot_lt h1))]; exact hI.prot b o v h1
  ·exact h1.2
 ·refine (hI.ent k e l h1 h2).keep hs (fun g cap hl => h.blk g (hI.loced_lt ⟨k, l, cap, h2, hl⟩)) (fun g cap o v hl hv => ?_)
  rcases hnew g o v hv with h3 | h3
  ·exact h3
  ·have := hI.loced_lt ⟨k, l, cap, h2, hl⟩; omega
theorem Inv.alloc {c : Ctx} {H : zb} {w w1 : World} (hI : Inv base c H w) (hg : Grew w w1) (hsz : w1.heap.size = w.heap.size) (size cap : Nat) (elems : List AVal) (cur : Array Value) (ty : TypeId)
  (hpos : 0 < size) (hc : cur.size = cap * size) (hm : cap ≤ maxLen) (hle : elems.length ≤ cap) (hcells : ∀ x ∈ elems, x.cells.length = size ∧ ∀ y ∈ x.cells, y.isCell = true)
  (hrep : ∀ (i : Nat) x (j : Nat) y, elems[i]? = some x → x.cells[j]? = some y → ∃ v, cur[i * size + j]? = some v ∧ Rep c y v) :
  Step c w ⟨c.locs ++ [⟨0, size, some (w.heap.size, cap), false⟩], c.prot⟩ (w1.alloc (.cells cur ty)) ∧
  Inv base ⟨c.locs ++ [⟨0, size, some (w.heap.size, cap), false⟩], c.prot⟩ (H ++ [⟨size, 0, false, elems, ty⟩]) (w1.alloc (.cells cur ty)) := by
 have hg2 := hg.alloc (.cells cur ty)
 have hs : Step c w ⟨c.locs ++ [⟨0, size, some (w.heap.size, cap), false⟩], c.prot⟩ (w1.alloc (.cells cur ty)) := by
  refine ⟨fun _ _ _ h => h, fun k l h => ⟨l, ?_, Nat.le_refl _, fun _ => rfl⟩, hg2.os, hg2.tape, hg2.output, hg2.size, fun b hb _ => hg2.blk b hb, fun b hb => ?_, fun _ _ _ h => .inl h⟩
  ·exact (List.getElem?_append_left (List.getElem?_eq_some_iff.1 h).1).trans h
  ·obtain ⟨k, l, cp, h1, h2⟩ := hb
   rw [List.getElem?_append] at h1
   split at h1
   ·exact .inl ⟨k, l, cp, h1, h2⟩
   ·rename_i hk
    have : k - c.locs.length = 0 := by
     by_cases h0 : k - c.locs.length = 0
     ·exact h0
     ·rw [List.getElem?_eq_none (by simp; omega)] at h1; cases h1
    rw [this] at h1; simp at h1; subst h1; simp at h2; right; omega
 refine ⟨hs, hI.base, by simp [hI.len], fun b o v hv => ?_, fun k e l h1 h2 => ?_, fun k k' l l' g cp cp' h1 h2 h3 h4 => ?_⟩
 ·rw [cell_of_heap (hg2.blk b (hI.prot_lt hv))]; exact hI.prot b o v hv
 ·by_cases hk : k < H.length
  ·rw [List.getElem?_append_left hk] at h1
   rw [List.getElem?_append_left (by rw [hI.len]; exact hk)] at h2
   exact (hI.ent k e l h1 h2).keep hs (fun g cap hl => hg2.blk g (hI.loced_lt ⟨k, l, cap, h2, hl⟩)) (fun _ _ _ _ _ h => h)
  ·have hk0 : k = H.length := by
    have := (List.getElem?_eq_some_iff.1 h1).1; simp at this; omega
   subst hk0
   rw [List.getElem?_append_right (by omega)] at h1
   rw [List.getElem?_append_right (by rw [hI.len]; omega), hI.len] at h2
   simp at h1 h2
   subst h1; subst h2
   refine ⟨rfl, rfl, nP hpos, fun _ => hcells, by simp, fun g cp cur' ty' fr' hl hh => ?_, (fun _ _ _ hm => by cases hm), fun g cp hl _ => ?_⟩
   ·simp at hl
    obtain ⟨rfl, rfl⟩ := hl
    have hq : (w1.alloc (.cells cur ty)).heap[w.heap.size]? = some (.cells cur ty (0, 0)) := by rw [← hsz]; exact heap_alloc_new _ _
    rw [hq] at hh
    cases hh; rfl
   simp at hl
   obtain ⟨rfl, rfl⟩ := hl
   refine ⟨cur, ty, by rw [← hsz]; exact heap_alloc_new _ _, hc, hm, hle, fun i x j y a b => ?_, fun o v ho => ?_⟩
   ·obtain ⟨v, p, q⟩ := hrep i x j y a b
    exact ⟨v, p, q.step hs⟩
   ·have := hI.prot_lt ho; omega
 · -- two entries at one block
  have lt : ∀ {k : Nat} {l : Loc} {g cp : Nat}, (c.locs ++ [⟨0, size, some (w.heap.size, cap), false⟩])[k]? = some l → l.place = some (g, cp) → (k < c.locs.length ∧ c.locs[k]? = some l ∧ g < w.heap.size) ∨ (k = c.locs.length ∧ g = w.heap.size) := by
   intro k l g cp a b
   by_cases hk : k < c.locs.length
   ·rw [List.getElem?_append_left hk] at a
    exact .inl ⟨hk, a, hI.loced_lt ⟨k, l, cp, a, b⟩⟩
   ·have hk0 : k = c.locs.length := by have := (List.getElem?_eq_some_iff.1 a).1; simp at this; omega
    subst hk0
    simp at a; subst a; simp at b
    exact .inr ⟨rfl, b.1.symm⟩
  rcases lt h1 h3 with ⟨a1, a2, a3⟩ | ⟨a1, a2⟩ <;> rcases lt h2 h4 with ⟨b1, b2, b3⟩ | ⟨b1, b2⟩
  ·exact hI.inj k k' l l' g cp cp' a2 b2 h3 h4
  ·omega
  ·omega
  ·omega
end Go.Abs
namespace Go.Abs
variable {P : Program} {base : Prot}
theorem EntOk.ctx {c c' : Ctx} {w w0 w1 : World} {e : Ent} {l : Loc} (h : EntOk c w e l) (hs : Step c w0 c' w1) (hp : c'.prot = c.prot) : EntOk c' w e l where
 ver := h.ver
 size := h.size
 pos := h.pos
 cells := h.cells
 nowhere := h.nowhere
 typed := h.typed
 mapped := fun g cap hl hm => by
  obtain ⟨es, ck, h1, h2, h3⟩ := h.mapped g cap hl hm
  exact ⟨es, ck, h1, h2, fun i x a => let ⟨me, k, y, p, q, r, s⟩ := h3 i x a; ⟨me, k, y, p, q, r, s.mono hs.prot⟩⟩
 there := fun g cap hl hm => by
  obtain ⟨cur, ty, h1, h2, h3, h4, h5, h6⟩ := h.there g cap hl hm
  exact ⟨cur, ty, h1, h2, h3, h4, fun i x j y a b => let ⟨v, p, q⟩ := h5 i x j y a b; ⟨v, p, q.step hs⟩, fun o v ho => h6 o v (by rw [hp] at ho; exact ho)⟩
theorem Inv.replace {c : Ctx} {H : zb} {w w' : World} (hI : Inv base c H w) {k : Nat} {l : Loc} (hL : c.locs[k]? = some l) (e' : Ent) (l' : Loc)
  (hos : w'.os = w.os) (ht : w'.tape = w.tape) (ho : w'.output = w.output) (hsz : w.heap.size ≤ w'.heap.size)
  (hblk : ∀ b, b < w.heap.size → (∀ cap, l.place ≠ some (b, cap)) → w'.heap[b]? = w.heap[b]?)
  (hver : l.ver ≤ l'.ver) (hsame : l'.ver = l.ver → l' = l)
  (hplace : ∀ g cap, l'.place = some (g, cap) → (∃ cap0, l.place = some (g, cap0)) ∨ w.heap.size ≤ g)
  (hprot : ∀ b o v, c.prot b o = some v → w'.cell? ⟨b, o, none⟩ = some v) (hok : EntOk c w' e' l') :
  Step c w ⟨c.locs.set k l', c.prot⟩ w' ∧ Inv base ⟨c.locs.set k l', c.prot⟩ (H.set k e') w' := by
 have hk : k < c.locs.length := (List.getElem?_eq_some_iff.1 hL).1
 have hs : Step c w ⟨c.locs.set k l', c.prot⟩ w' := by
  refine ⟨fun _ _ _ h => h, fun i li h => ?_, hos, ht, ho, hsz, fun b hb hn => hblk b hb (fun cap hc => hn ⟨k, l, cap, hL, hc⟩), fun b hb => ?_, fun _ _ _ h => .inl h⟩
  ·by_cases hik : k = i
   ·subst hik
    rw [hL] at h; cases h
    exact ⟨l', by simp [hk], hver, hsame⟩
   ·exact ⟨li, by simp [hik, h], Nat.le_refl _, fun _ => rfl⟩
  ·obtain ⟨i, li, cap, h1, h2⟩ := hb
   by_cases hik : k = i
   ·subst hik
    simp [hk] at h1; subst h1
    rcases hplace b cap h2 with ⟨cap0, h3⟩ | h3
    ·exact .inl ⟨k, l, cap0, hL, h3⟩
    ·exact .inr h3
   ·simp [hik] at h1
    exact .inl ⟨i, li, cap, h1, h2⟩
 refine ⟨hs, hI.base, by simp [hI.len], hprot, fun i ei li h1 h2 => ?_, fun i i' li li' g cp cp' h1 h2 h3 h4 => ?_⟩
 ·by_cases hik : k = i
  ·subst hik
   have hk2 : k < H.length := by rw [← hI.len]; exact hk
   simp [hk2] at h1; simp [hk] at h2
   subst h1; subst h2
   exact hok.ctx hs rfl
  ·simp [hik] at h1 h2
   refine (hI.ent i ei li h1 h2).keep hs (fun g cap hl => hblk g (hI.loced_lt ⟨i, li, cap, h2, hl⟩) (fun cap' hc => hik (hI.inj k i l li g cap' cap hL h2 hc hl))) (fun _ _ _ _ _ h => h)
 ·by_cases hik : k = i <;> by_cases hik' : k = i'
  ·rw [← hik, ← hik']
  ·subst hik
   simp [hk] at h1; subst h1
   simp [hik'] at h2
   rcases hplace g cp h3 with ⟨cap0, h5⟩ | h5
   ·exact hI.inj k i' l li' g cap0 cp' hL h2 h5 h4
   ·have := hI.loced_lt ⟨i', li', cp', h2, h4⟩; omega
  ·subst hik'
   simp [hk] at h2; subst h2
   simp [hik] at h1
   rcases hplace g cp' h4 with ⟨cap0, h5⟩ | h5
   ·exact hI.inj i k li l g cp cap0 h1 hL h3 h5
   ·have := hI.loced_lt ⟨i, li, cp, h1, h3⟩; omega
  ·simp [hik] at h1
   simp [hik'] at h2
   exact hI.inj i i' li li' g cp cp' h1 h2 h3 h4
theorem Inv.allocNil {c : Ctx} {H : zb} {w : World} (hI : Inv base c H w) (size : Nat) (ty : TypeId) (hpos : 0 < size) :
  Step c w ⟨c.locs ++ [⟨0, size, none, false⟩], c.prot⟩ w ∧ Inv base ⟨c.locs ++ [⟨0, size, none, false⟩], c.prot⟩ (H ++ [⟨size, 0, false, [], ty⟩]) w := by
 have old : ∀ {k : Nat} {l : Loc}, (c.locs ++ [⟨0, size, none, false⟩])[k]? = some l → l.place ≠ none → c.locs[k]? = some l := by
  intro k l h1 h2
  rw [List.getElem?_append] at h1
  split at h1
  ·exact h1
  ·rename_i hk
   have : k - c.locs.length = 0 := by
    by_cases h0 : k - c.locs.length = 0
    ·exact h0
    ·rw [List.getElem?_eq_none (by simp; omega)] at h1; cases h1
   rw [this] at h1; simp at h1; subst h1; simp at h2
 have hs : Step c w ⟨c.locs ++ [⟨0, size, none, false⟩], c.prot⟩ w := by
  refine ⟨fun _ _ _ h => h, fun k l h => ⟨l, (List.getElem?_append_left (List.getElem?_eq_some_iff.1 h).1).trans h, Nat.le_refl _, fun _ => rfl⟩, rfl, rfl, rfl, Nat.le_refl _, fun b hb _ => rfl, fun b hb => ?_, fun _ _ _ h => .inl h⟩
  obtain ⟨k, l, cp, h1, h2⟩ := hb
  exact .inl ⟨k, l, cp, old h1 (by simp [h2]), h2⟩
 refine ⟨hs, hI.base, by simp [hI.len], hI.prot, fun k e l h1 h2 => ?_, fun k k' l l' g cp cp' h1 h2 h3 h4 => hI.inj k k' l l' g cp cp' (old h1 (by simp [h3])) (old h2 (by simp [h4])) h3 h4⟩
 by_cases hk : k < H.length
 ·rw [List.getElem?_append_left hk] at h1
  rw [List.getElem?_append_left (by rw [hI.len]; exact hk)] at h2
  exact (hI.ent k e l h1 h2).keep hs (fun _ _ _ => rfl) (fun _ _ _ _ _ h => h)
 ·have hk0 : k = H.length := by have := (List.getElem?_eq_some_iff.1 h1).1; simp at this; omega
  subst hk0
  rw [List.getElem?_append_right (by omega)] at h1
  rw [List.getElem?_append_right (by rw [hI.len]; omega), hI.len] at h2
  simp at h1 h2
  subst h1; subst h2
  exact ⟨rfl, rfl, nP hpos, by simp, fun _ => rfl, fun g cap cur ty fr h => by simp at h, fun g cap h => by simp at h, fun g cap h => by simp at h⟩
def Promised (c : Ctx) (H : zb) (w : World) (k : Nat) : Prop :=
 ∀ e l g cap, H[k]? = some e → c.locs[k]? = some l → l.place = some (g, cap) → l.mp = false → ∀ o, o < e.elems.length * e.size → c.prot g o = w.cell? ⟨g, o, none⟩
theorem Inv.freeze1 {c : Ctx} {H : zb} {w : World} (hI : Inv base c H w) (k : Nat) :
  ∃ c', c'.locs = c.locs ∧ Step c w c' w ∧ Inv base c' (freeze1 H k) w ∧ Promised c' H w k := by
 unfold Abs.freeze1
 cases hk : H[k]? with
 | none => exact ⟨c, rfl, .refl _ _, hI, fun e l g cap h => by rw [hk] at h; cases h⟩
 | some e =>
  obtain ⟨l, hl, he⟩ := hI.loc hk
  -- the new promises
  let ok (b o : Nat) : Prop := ∃ cap, l.place = some (b, cap) ∧ o < e.elems.length * e.size
  have hdec : ∀ b o, ok b o ∨ ¬ ok b o := fun b o => Classical.em _
  let pr : Prot := fun b o => open Classical in if ok b o then w.cell? ⟨b, o, none⟩ else c.prot b o
  have hpr1 : ∀ b o, ok b o → pr b o = w.cell? ⟨b, o, none⟩ := fun b o h => if_pos h
  have hpr0 : ∀ b o, ¬ ok b o → pr b o = c.prot b o := fun b o h => if_neg h
  have hle : Prot.le c.prot pr := fun b o v hv => by
   rcases hdec b o with h | h
   ·rw [hpr1 b o h]; exact hI.prot b o v hv
   ·rw [hpr0 b o h]; exact hv
  have hs : Step c w ⟨c.locs, pr⟩ w := ⟨hle, fun _ l h => ⟨l, h, Nat.le_refl _, fun _ => rfl⟩, rfl, rfl, rfl, Nat.le_refl _, fun _ _ _ => rfl, fun _ h => .inl h, fun b o v hv => by
   rcases hdec b o with h | h
   ·obtain ⟨cap, h1, _⟩ := h; exact .inr (.inr ⟨k, l, cap, hl, h1⟩)
   ·have hv' : pr b o = some v := hv
    rw [hpr0 b o h] at hv'; exact .inl hv'⟩
  refine ⟨⟨c.locs, pr⟩, rfl, hs, ⟨fun b o v hv => hle b o v (hI.base b o v hv), by simp [hI.len], fun b o v hv => ?_, fun i ei li h1 h2 => ?_, hI.inj⟩, fun e' l' g cap h1 h2 h3 _ o ho => ?_⟩
  ·rcases hdec b o with h | h
   ·rw [← hpr1 b o h]; exact hv
   ·exact hI.prot b o v (by rw [← hpr0 b o h]; exact hv)
  ·by_cases hik : k = i
   ·subst hik
    have hk2 : k < H.length := (List.getElem?_eq_some_iff.1 hk).1
    simp [hk2] at h1
    have h2' : c.locs[k]? = some li := h2
    rw [hl] at h2'; cases h2'
    subst h1
    refine ⟨he.ver, he.size, he.pos, he.cells, he.nowhere, he.typed, fun g cap hg hm => let ⟨es, ck, h1, h2, h3⟩ := he.mapped g cap hg hm; ⟨es, ck, h1, h2, fun i x a => let ⟨me, k, y, p, q, r, s⟩ := h3 i x a; ⟨me, k, y, p, q, r, s.mono hle⟩⟩, fun g cap hg hm => ?_⟩
    obtain ⟨cur, ty, a1, a2, a3, a4, a5, a6⟩ := he.there g cap hg hm
    refine ⟨cur, ty, a1, a2, a3, a4, fun i x j y p q => let ⟨v, r, s⟩ := a5 i x j y p q; ⟨v, r, s.step hs⟩, fun o v ho => ?_⟩
    rcases hdec g o with h | h
    ·exact ⟨rfl, h.choose_spec.2⟩
    ·have := a6 o v (by rw [← hpr0 g o h]; exact ho)
     exact ⟨rfl, this.2⟩
   ·simp [hik] at h1
    have h2' : c.locs[i]? = some li := h2
    refine (hI.ent i ei li h1 h2').keep hs (fun _ _ _ => rfl) (fun g cap o v hg hv => ?_)
    rcases hdec g o with h | h
    ·obtain ⟨cap', h3, _⟩ := h
     exact absurd (hI.inj k i l li g cap' cap hl h2' h3 hg) hik
    ·rw [← hpr0 g o h]; exact hv
  ·rw [hk] at h1; cases h1
   have h2' : c.locs[k]? = some l' := h2
   rw [hl] at h2'; cases h2'
   exact hpr1 g o ⟨cap, h3, ho⟩
theorem ia (H : zb) (k i : Nat) : ∀ e, (freeze1 H k)[i]? = some e → ∃ e0, H[i]? = some e0 ∧ e0.size = e.size ∧ e0.elems = e.elems := by
 intro e h
 unfold freeze1 at h
 cases hk : H[k]? with
 | none => rw [hk] at h; exact ⟨e, h, rfl, rfl⟩
 | some e0 =>
  rw [hk] at h
  by_cases hik : k = i
  ·subst hik
   have hk2 : k < H.length := (List.getElem?_eq_some_iff.1 hk).1
   simp [hk2] at h
   subst h
   exact ⟨e0, hk, rfl, rfl⟩
  ·simp [hik] at h
   exact ⟨e, h, rfl, rfl⟩
theorem ot (H : zb) (k i : Nat) : ∀ e0, H[i]? = some e0 → ∃ e, (freeze1 H k)[i]? = some e ∧ e.size = e0.size ∧ e.elems = e0.elems := by
 intro e0 h
 unfold freeze1
 cases hk : H[k]? with
 | none => exact ⟨e0, h, rfl, rfl⟩
 | some e1 =>
  by_cases hik : k = i
  ·subst hik
   have hk2 : k < H.length := (List.getElem?_eq_some_iff.1 hk).1
   rw [hk] at h; cases h
   exact ⟨⟨e0.size, e0.ver, true, e0.elems, e0.ty⟩, by simp [hk2], rfl, rfl⟩
  ·exact ⟨e0, by simp [hik, h], rfl, rfl⟩
theorem Promised.step {c c' : Ctx} {H H' : zb} {w : World} {k : Nat} (h : Promised c H w k) (hl : c'.locs = c.locs) (hs : Prot.le c.prot c'.prot)
  (hH : ∀ e, H'[k]? = some e → ∃ e0, H[k]? = some e0 ∧ e0.size = e.size ∧ e0.elems = e.elems) (hcell : ∀ e l g cap, H[k]? = some e → c.locs[k]? = some l → l.place = some (g, cap) → l.mp = false → ∀ o, o < e.elems.length * e.size → ∃ v, w.cell? ⟨g, o, none⟩ = some v) : Promised c' H' w k := by
 intro e l g cap h1 h2 h3 hm o ho
 obtain ⟨e0, a1, a2, a3⟩ := hH e h1
 rw [hl] at h2
 rw [← a3, ← a2] at ho
 have := h e0 l g cap a1 h2 h3 hm o ho
 obtain ⟨v, hv⟩ := hcell e0 l g cap a1 h2 h3 hm o ho
 rw [hv] at this ⊢
 exact hs _ _ _ this
theorem Inv.cell_at {c : Ctx} {H : zb} {w : World} (hI : Inv base c H w) {k : Nat} {e : Ent} {l : Loc} {g cap : Nat} (hH : H[k]? = some e) (hL : c.locs[k]? = some l) (hg : l.place = some (g, cap)) (hm : l.mp = false) (o : Nat)
  (ho : o < e.elems.length * e.size) : ∃ v, w.cell? ⟨g, o, none⟩ = some v := by
 obtain ⟨cur, ty, a1, a2, a3, a4, a5, a6⟩ := (hI.ent k e l hH hL).there g cap hg hm
 rw [cell_of_row w g o cur ty (0, 0) a1]
 have : o < cur.size := by rw [a2]; exact Nat.lt_of_lt_of_le ho (Nat.mul_le_mul_right _ a4)
 exact ⟨cur[o], by simp [this]⟩
theorem Inv.freezeL {c : Ctx} {H : zb} {w : World} (hI : Inv base c H w) (ks : List Nat) :
  ∃ c', c'.locs = c.locs ∧ Step c w c' w ∧ Inv base c' (freezeL H ks) w ∧ ∀ k ∈ ks, Promised c' H w k := by
 induction ks generalizing c H with
 | nil => exact ⟨c, rfl, .refl _ _, hI, fun k h => by simp at h⟩
 | cons k ks ih =>
  obtain ⟨c1, e1, s1, i1, p1⟩ := hI.freeze1 k
  obtain ⟨c2, e2, s2, i2, p2⟩ := ih i1
  refine ⟨c2, e2.trans e1, s1.trans s2, i2, fun k' hk' => ?_⟩
  rcases List.mem_cons.1 hk' with rfl | hk'
  ·exact p1.step e2 s2.prot (fun e h => ⟨e, h, rfl, rfl⟩) (fun e l g cap a b d hm o ho => hI.cell_at a (by rw [← e1]; exact b) d hm o ho)
  ·refine (p2 k' hk').step rfl (fun _ _ _ h => h) (fun e h => ot H k k' e h) (fun e l g cap a b d hm o ho => i1.cell_at a (by rw [← e2]; exact b) d hm o ho)
end Go.Abs

namespace Go.Abs
variable {P : Program} {base : Prot}
theorem OwnVal.slice {l : Loc} {off len : Nat} {v : Value} (h : OwnVal l off len v) : ∃ a cp, v = .slice a len cp ∧ len ≤ cp ∧ cp ≤ maxLen := by
 unfold OwnVal at h
 cases hp : l.place with
 | none => simp only [hp] at h; obtain ⟨_, a, rfl, _, rfl, _⟩ := h; exact ⟨a, 0, rfl, Nat.le_refl _, Nat.zero_le _⟩
 | some q => obtain ⟨g, cap⟩ := q; simp only [hp] at h; obtain ⟨_, a, cp, rfl, h1, h2, _⟩ := h; exact ⟨a, cp, rfl, h1, h2⟩
theorem wK {α β : Type} {f : α → Option β} : ∀ {l : List α} {r : List β}, zP f l = some r → r.length = l.length ∧ ∀ (j : Nat) x, l[j]? = some x → ∃ y, r[j]? = some y ∧ f x = some y
 | [], r, h => by simp [zP] at h; subst h; exact ⟨rfl, fun j x h => by simp at h⟩
 | a :: l, r, h => by
  simp only [zP] at h
  cases hf : f a with
  | none => simp [hf] at h
  | some b =>
   cases hm : zP f l with
   | none => simp [hf, hm] at h
   | some bs =>
    simp [hf, hm] at h
    subst h
    obtain ⟨h1, h2⟩ := wK hm
    refine ⟨by simp [h1], fun j x hj => ?_⟩
    cases j with
    | zero => simp at hj; subst hj; exact ⟨b, rfl, hf⟩
    | succ j => exact h2 j x (by simpa using hj)
theorem vh {α β : Type} {f : α → Option β} {l : List α} {r : List β} (h : zP f l = some r) (j : Nat) (y : β) (hj : r[j]? = some y) : ∃ x, l[j]? = some x ∧ f x = some y := by
 obtain ⟨h1, h2⟩ := wK h
 have hl : j < l.length := by rw [← h1]; exact (List.getElem?_eq_some_iff.1 hj).1
 obtain ⟨y', a, b⟩ := h2 j l[j] (by simp [hl])
 rw [hj] at a; cases a
 exact ⟨l[j], by simp [hl], b⟩
theorem Inv.row {c : Ctx} {H : zb} {w : World} (hI : Inv base c H w) {k : Nat} {e : Ent} {l : Loc} {g cap : Nat} (hH : H[k]? = some e) (hL : c.locs[k]? = some l) (hg : l.place = some (g, cap)) (hm : l.mp = false)
  (i j : Nat) (x y : AVal) (hx : e.elems[i]? = some x) (hy : x.cells[j]? = some y) : ∃ v, w.cell? ⟨g, i * e.size + j, none⟩ = some v ∧ Rep c y v := by
 obtain ⟨cur, ty, a1, a2, a3, a4, a5, a6⟩ := (hI.ent k e l hH hL).there g cap hg hm
 obtain ⟨v, p, q⟩ := a5 i x j y hx hy
 exact ⟨v, by rw [cell_of_row w g _ cur ty (0, 0) a1]; exact p, q⟩
def ResOk (c : Ctx) (H : zb) (w : World) (n : Nat) : Prop :=
 ∀ x v p, Rep c x v → zj H n x = some p → (∀ k ∈ zi H n x, Promised c H w k) → PRep c.prot p v
theorem kZ {H : zb} {n : Nat} {x : AVal} {p : PVal} (h : zj H n x = some p) (hc : x.isCell = true) : p.isCell = true := by
 cases x with
 | p y => cases n <;> (simp [zj] at h; subst h; simpa [AVal.isCell] using hc)
 | tight es => cases n <;> (simp [zj] at h; subst h; rfl)
 | junk => simp [AVal.isCell] at hc
 | anyb => cases n <;> simp [zj] at h
 | omap k ver => cases n <;> simp [zj] at h
 | nilm => cases n <;> simp [zj] at h
 | agg l => simp [AVal.isCell] at hc
 | tup l => simp [AVal.isCell] at hc
 | own k off len ver =>
  cases n with
  | zero => simp [zj] at h
  | succ n =>
   simp only [zj] at h
   split at h <;> try cases h
   split at h <;> try cases h
   split at h <;> cases h
   rfl
 | optr k ver i off =>
  cases n with
  | zero => simp [zj] at h
  | succ n =>
   simp only [zj] at h
   split at h <;> try cases h
   split at h <;> try cases h
   split at h <;> try cases h
   split at h <;> cases h
   rfl
 | clo f l =>
  cases n with
  | zero => simp [zj] at h
  | succ n => simp only [zj] at h; split at h <;> cases h; rfl
theorem fK {c : Ctx} {H : zb} {w : World} {n : Nat} (ih : ∀ m, m ≤ n → ResOk c H w m) {x : AVal} {p : PVal} (h : zj H n x = some p) (hk : ∀ y ∈ x.cells, y.isCell = true)
  (ht : ∀ k ∈ zi H n x, Promised c H w k) :
  p.cells.length = x.cells.length ∧ (∀ z ∈ p.cells, z.isCell = true) ∧ ∀ (j : Nat) z, p.cells[j]? = some z → ∃ y, x.cells[j]? = some y ∧ ∀ v, Rep c y v → PRep c.prot z v := by
 by_cases hc : x.isCell = true
 ·have hp := kZ h hc
  rw [AVal.isCell_cells hc, PVal.isCell_cells hp]
  refine ⟨rfl, by simpa using hp, fun j z hz => ?_⟩
  cases j with
  | zero => simp at hz; subst hz; exact ⟨x, rfl, fun v r => ih n (Nat.le_refl _) x v p r h ht⟩
  | succ j => simp at hz
 ·cases x with
  | p y =>
   have : p = y := by cases n <;> (simp [zj] at h; exact h.symm)
   subst this
   refine ⟨by simp [AVal.cells], fun z hz => by simpa [AVal.isCell] using hk (.p z) (by simpa [AVal.cells] using hz), fun j z hz => ⟨.p z, by simp [AVal.cells, hz], fun v r => ?_⟩⟩
   cases r; assumption
  | agg l =>
   cases n with
   | zero => simp [zj] at h
   | succ n =>
    simp only [zj] at h
    cases hm : zP (zj H n) l with
    | none => rw [hm] at h; cases h
    | some ps =>
     rw [hm] at h; cases h
     obtain ⟨h1, h2⟩ := wK hm
     refine ⟨by simp [AVal.cells, PVal.cells, h1], fun z hz => ?_, fun j z hz => ?_⟩
     ·have hz' : z ∈ ps := hz
      obtain ⟨j, hj, rfl⟩ := List.getElem_of_mem hz'
      obtain ⟨y, a, b⟩ := vh hm j ps[j] (by simp)
      exact kZ b (hk y (by simp only [AVal.cells]; exact List.mem_of_getElem? a))
     ·obtain ⟨y, a, b⟩ := vh hm j z (by simpa [PVal.cells] using hz)
      exact ⟨y, by simpa [AVal.cells] using a, fun v r => ih n (Nat.le_succ n) y v z r b (fun k hk => ht k (by simp only [zi, List.mem_flatMap]; exact ⟨y, List.mem_of_getElem? a, hk⟩))⟩
  | junk => cases n <;> simp [zj] at h
  | tup l => have := hk (.tup l) (by simp [AVal.cells]); simp [AVal.isCell] at this
  | _ => simp [AVal.isCell] at hc
theorem uy {c : Ctx} {H : zb} {w : World} (hI : Inv base c H w) : ∀ n, ResOk c H w n := by
 intro n
 induction n using Nat.strongRecOn with
 | _ n ih =>
  intro x v p r h ht
  cases r with
  | junk v => cases n <;> simp [zj] at h
  | anyb v => cases n <;> simp [zj] at h
  | omap => cases n <;> simp [zj] at h
  | nilm => cases n <;> simp [zj] at h
  | p y v hr => cases n <;> (simp [zj] at h; subst h; exact hr)
  | tight es a m hn hr hz => cases n <;> (simp [zj] at h; subst h; exact hr)
  | own k off len ver l v hl hv hh ho =>
   cases n with
   | zero => simp [zj] at h
   | succ n =>
    simp only [zj] at h
    cases hH : H[k]? with
    | none => rw [hH] at h; cases h
    | some e =>
     rw [hH] at h
     simp only at h
     split at h
     case isFalse => cases h
     rename_i hcond
     obtain ⟨hver, hlen⟩ := hcond
     cases hm : zP (zj H n) ((e.elems.drop off).take len) with
     | none => rw [hm] at h; cases h
     | some ps =>
      rw [hm] at h; cases h
      have he := hI.ent k e l hH hl
      have hval : OwnVal l off len v := hh (by rw [he.ver]; exact hver.symm)
      obtain ⟨m1, m2⟩ := wK hm
      have hplen : ps.length = len := by rw [m1]; simp; omega
      have hpk : Promised c H w k := ht k (by simp [zi])
      have htt : ∀ x ∈ (e.elems.drop off).take len, ∀ k' ∈ zi H n x, Promised c H w k' := fun x hx k' hk' => ht k' (by
       simp only [zi, hH, List.mem_cons, List.mem_flatMap]; exact .inr ⟨x, hx, hk'⟩)
      -- one element
      have helem : ∀ (i : Nat) q, ps[i]? = some q → ∃ x, e.elems[off + i]? = some x ∧ x ∈ e.elems ∧ q.cells.length = e.size ∧ (∀ z ∈ q.cells, z.isCell = true) ∧
        ∀ (j : Nat) z, q.cells[j]? = some z → ∃ y, x.cells[j]? = some y ∧ ∀ v, Rep c y v → PRep c.prot z v := by
       intro i q hq
       obtain ⟨x, a, b⟩ := vh hm i q hq
       have hmem := List.mem_of_getElem? a
       have ha : e.elems[off + i]? = some x := by
        rw [List.getElem?_take] at a
        split at a
        ·simpa using a
        ·cases a
       have hxe := List.mem_of_getElem? ha
       have hcx := he.cells hval.1 x hxe
       obtain ⟨q1, q2, q3⟩ := fK (fun m hm' => ih m (by omega)) b hcx.2 (htt x hmem)
       exact ⟨x, ha, hxe, by rw [q1]; exact hcx.1, q2, q3⟩
      obtain ⟨a, cp, rfl, hc1, hc2⟩ := hval.slice
      cases hp : l.place with
      | none =>
       have h0 := he.nowhere hp
       have hps : ps = [] := List.eq_nil_of_length_eq_zero (by rw [m1, h0]; simp)
       subst hps
       exact .lst [] a len cp 0 0 0 (fun _ _ => undef) (by simpa using hplen.symm) hc1 hc2 (by simp) (by simp) (by simp) (by simp) (by simp)
      | some q =>
       obtain ⟨g, cap⟩ := q
       simp only [OwnVal, hp] at hval
       obtain ⟨hmp, a', cp', he', _, _, hoc, haddr⟩ := hval
       cases he'
       have hget : ∀ i j, i < ps.length → j < e.size → ∃ v, w.cell? ⟨g, off * e.size + i * e.size + j, none⟩ = some v ∧ c.prot g (off * e.size + i * e.size + j) = some v := by
        intro i j hi hj
        have hlt : off * e.size + i * e.size + j < e.elems.length * e.size := by
         rw [← Nat.add_mul]
         have h1 : (off + i + 1) * e.size ≤ e.elems.length * e.size := Nat.mul_le_mul_right _ (by omega)
         rw [Nat.add_mul, Nat.one_mul] at h1
         omega
        obtain ⟨v, hv⟩ := hI.cell_at hH hl hp hmp _ hlt
        exact ⟨v, hv, by rw [hpk e l g cap hH hl hp hmp _ hlt]; exact hv⟩
       refine .lst ps a len cp e.size g (off * e.size) (fun i j => (w.cell? ⟨g, off * e.size + i * e.size + j, none⟩).getD undef) hplen.symm hc1 hc2 ?_ ?_ ?_ ?_ ?_
       ·intro hne
        have hpos : 0 < len := by rw [← hplen]; exact List.length_pos_iff.2 hne
        rw [(haddr (.inl hpos)).1, he.size]
       ·intro q hq
        obtain ⟨i, hi, rfl⟩ := List.getElem_of_mem hq
        obtain ⟨x, _, _, h3, _⟩ := helem i ps[i] (by simp)
        exact h3
       ·intro i j hi hj
        obtain ⟨v, h1, h2⟩ := hget i j hi hj
        simp only [h1, Option.getD_some]
        exact h2
       ·intro i q j z hq hz
        obtain ⟨x, h1, _, h3, _, h5⟩ := helem i q hq
        obtain ⟨y, h6, h7⟩ := h5 j z hz
        obtain ⟨v, h8, h9⟩ := hI.row hH hl hp hmp (off + i) j x y h1 h6
        have : off * e.size + i * e.size + j = (off + i) * e.size + j := by rw [Nat.add_mul]
        simp only [this, h8, Option.getD_some]
        exact h7 v h9
       ·intro q hq
        obtain ⟨i, hi, rfl⟩ := List.getElem_of_mem hq
        obtain ⟨x, _, _, _, h4, _⟩ := helem i ps[i] (by simp)
        exact h4
  | optr k ver i off l v hl hv hh ho =>
   cases n with
   | zero => simp [zj] at h
   | succ n =>
    simp only [zj] at h
    cases hH : H[k]? with
    | none => rw [hH] at h; cases h
    | some e =>
     rw [hH] at h
     simp only at h
     split at h
     case isFalse => cases h
     rename_i hver
     cases hx : e.elems[i]? with
     | none => rw [hx] at h; cases h
     | some x =>
      rw [hx] at h
      simp only at h
      cases hm : zP (zj H n) (x.cells.drop off) with
      | none => rw [hm] at h; cases h
      | some ps =>
       rw [hm] at h; cases h
       have he := hI.ent k e l hH hl
       obtain ⟨hmp, g, cap, hp, rfl⟩ := hh (by rw [he.ver]; exact hver.symm)
       obtain ⟨m1, m2⟩ := wK hm
       have hpk : Promised c H w k := ht k (by simp [zi])
       have hcx := he.cells hmp x (List.mem_of_getElem? hx)
       have hplen : ps.length = e.size - off := by rw [m1]; simp [hcx.1]
       have hi : i < e.elems.length := (List.getElem?_eq_some_iff.1 hx).1
       have hget : ∀ j, j < ps.length → ∃ v, w.cell? ⟨g, i * e.size + off + j, none⟩ = some v ∧ c.prot g (i * e.size + off + j) = some v := by
        intro j hj
        have hlt : i * e.size + off + j < e.elems.length * e.size := by
         have h1 : (i + 1) * e.size ≤ e.elems.length * e.size := Nat.mul_le_mul_right _ (by omega)
         rw [Nat.add_mul, Nat.one_mul] at h1
         omega
        obtain ⟨v, hv⟩ := hI.cell_at hH hl hp hmp _ hlt
        exact ⟨v, hv, by rw [hpk e l g cap hH hl hp hmp _ hlt]; exact hv⟩
       have hone : ∀ (j : Nat) z, ps[j]? = some z → ∃ y, x.cells[off + j]? = some y ∧ y.isCell = true ∧ zj H n y = some z ∧ ∀ k ∈ zi H n y, Promised c H w k := by
        intro j z hz
        obtain ⟨y, a, b⟩ := vh hm j z hz
        have hm1 := List.mem_of_getElem? a
        exact ⟨y, by simpa using a, hcx.2 y (List.mem_of_mem_drop hm1), b, fun k' hk' => ht k' (by simp only [zi, hH, hx, List.mem_cons, List.mem_flatMap]; exact .inr ⟨y, hm1, hk'⟩)⟩
       rw [he.size]
       refine .cptr ps g (i * e.size + off) (fun j => (w.cell? ⟨g, i * e.size + off + j, none⟩).getD undef) ?_ ?_ ?_
       ·intro j hj
        obtain ⟨v, h1, h2⟩ := hget j hj
        simp only [h1, Option.getD_some]
        exact h2
       ·intro j z hz
        obtain ⟨y, a, b, d, f⟩ := hone j z hz
        obtain ⟨v, h8, h9⟩ := hI.row hH hl hp hmp i (off + j) x y hx a
        have : i * e.size + off + j = i * e.size + (off + j) := by omega
        simp only [this, h8, Option.getD_some]
        exact ih n (Nat.lt_succ_self n) y v z h9 d f
       ·intro z hz
        obtain ⟨j, hj, rfl⟩ := List.getElem_of_mem hz
        obtain ⟨y, a, b, d, f⟩ := hone j ps[j] (by simp)
        exact kZ d b
  | agg l vs hlen hr hk =>
   cases n with
   | zero => simp [zj] at h
   | succ n =>
    simp only [zj] at h
    cases hm : zP (zj H n) l with
    | none => rw [hm] at h; cases h
    | some ps =>
     rw [hm] at h; cases h
     obtain ⟨m1, m2⟩ := wK hm
     refine .agg ps vs (by rw [m1]; exact hlen) (fun j z u hz hu => ?_) (fun z hz => ?_)
     ·obtain ⟨y, a, b⟩ := vh hm j z hz
      exact ih n (Nat.lt_succ_self n) y u z (hr j y u a hu) b (fun k' hk' => ht k' (by simp only [zi, List.mem_flatMap]; exact ⟨y, List.mem_of_getElem? a, hk'⟩))
     ·obtain ⟨j, hj, rfl⟩ := List.getElem_of_mem hz
      obtain ⟨y, a, b⟩ := vh hm j ps[j] (by simp)
      exact kZ b (hk y (List.mem_of_getElem? a))
  | tup l vs hlen hr =>
   cases n with
   | zero => simp [zj] at h
   | succ n =>
    simp only [zj] at h
    cases hm : zP (zj H n) l with
    | none => rw [hm] at h; cases h
    | some ps =>
     rw [hm] at h; cases h
     obtain ⟨m1, m2⟩ := wK hm
     refine .tup ps vs (by rw [m1]; exact hlen) (fun j z u hz hu => ?_)
     obtain ⟨y, a, b⟩ := vh hm j z hz
     exact ih n (Nat.lt_succ_self n) y u z (hr j y u a hu) b (fun k' hk' => ht k' (by simp only [zi, List.mem_flatMap]; exact ⟨y, List.mem_of_getElem? a, hk'⟩))
  | clo f l vs hlen hr =>
   cases n with
   | zero => simp [zj] at h
   | succ n =>
    simp only [zj] at h
    cases hm : zP (zj H n) l with
    | none => rw [hm] at h; cases h
    | some ps =>
     rw [hm] at h; cases h
     obtain ⟨m1, m2⟩ := wK hm
     refine .clo f ps vs (by rw [m1]; exact hlen) (fun j z u hz hu => ?_)
     obtain ⟨y, a, b⟩ := vh hm j z hz
     exact ih n (Nat.lt_succ_self n) y u z (hr j y u a hu) b (fun k' hk' => ht k' (by simp only [zi, List.mem_flatMap]; exact ⟨y, List.mem_of_getElem? a, hk'⟩))
end Go.Abs
namespace Go.Abs
variable {P : Program} {base : Prot}
theorem nI (n : Nat) (x : AVal) : (zk n x).cells = x.cells.map (zk n) := by
 cases x with
 | p y => simp only [zk, AVal.cells, List.map_map]; exact List.map_congr_left fun z _ => by simp [zk]
 | agg l => simp [zk, AVal.cells]
 | _ => simp [zk, AVal.cells]
theorem gu (n : Nat) (x : AVal) : (zk n x).isCell = x.isCell := by
 cases x <;> simp [zk, AVal.isCell]
theorem Rep.shift {pre locs : List Loc} {pr : Prot} {x : AVal} {v : Value} (r : Rep ⟨locs, pr⟩ x v) : Rep ⟨pre ++ locs, pr⟩ (zk pre.length x) v := by
 generalize hc : (⟨locs, pr⟩ : Ctx) = c at r
 induction r with
 | junk v => simp only [zk]; exact .junk v
 | anyb v => simp only [zk]; exact .anyb v
 | p x v hr => subst hc; simp only [zk]; exact .p x v hr
 | tight es a n hn hr hz => subst hc; simp only [zk]; exact .tight es a n hn hr hz
 | own k off len ver l v hl hv hh ho =>
  subst hc
  simp only [zk]
  exact .own _ off len ver l v (by rw [List.getElem?_append_right (by omega)]; simpa using hl) hv hh ho
 | optr k ver i off l v hl hv hh ho =>
  subst hc
  simp only [zk]
  exact .optr _ ver i off l v (by rw [List.getElem?_append_right (by omega)]; simpa using hl) hv hh ho
 | nilm => simp only [zk]; exact .nilm
 | omap k ver l v hl hv hh ho =>
  subst hc
  simp only [zk]
  exact .omap _ ver l v (by rw [List.getElem?_append_right (by omega)]; simpa using hl) hv hh ho
 | agg cells vs hl hr hk ih =>
  simp only [zk]
  refine .agg _ vs (by simpa using hl) (fun j x v h1 h2 => ?_) (fun x hx => ?_)
  ·rw [List.getElem?_map] at h1
   obtain ⟨z, hz, rfl⟩ := Option.map_eq_some_iff.1 h1
   exact ih j z v hz h2
  ·obtain ⟨z, hz, rfl⟩ := List.mem_map.1 hx
   rw [gu]; exact hk z hz
 | tup l vs hl hr ih =>
  simp only [zk]
  refine .tup _ vs (by simpa using hl) (fun j x v h1 h2 => ?_)
  rw [List.getElem?_map] at h1
  obtain ⟨z, hz, rfl⟩ := Option.map_eq_some_iff.1 h1
  exact ih j z v hz h2
 | clo f l vs hl hr ih =>
  simp only [zk]
  refine .clo f _ vs (by simpa using hl) (fun j x v h1 h2 => ?_)
  rw [List.getElem?_map] at h1
  obtain ⟨z, hz, rfl⟩ := Option.map_eq_some_iff.1 h1
  exact ih j z v hz h2
def SameEl (H H' : zb) : Prop := ∀ k : Nat, (H[k]?).map (fun e => (e.ver, e.elems)) = (H'[k]?).map (fun e => (e.ver, e.elems))
theorem mapO_congr {α β : Type} {f g : α → Option β} (h : ∀ x, f x = g x) (l : List α) : zP f l = zP g l := by rw [funext h]
theorem SameEl.cases {H H' : zb} (h : SameEl H H') (k : Nat) : (H[k]? = none ∧ H'[k]? = none) ∨ ∃ e e', H[k]? = some e ∧ H'[k]? = some e' ∧ e.ver = e'.ver ∧ e.elems = e'.elems := by
 have := h k
 cases h1 : H[k]? with
 | none => cases h2 : H'[k]? with
  | none => exact .inl ⟨rfl, rfl⟩
  | some e' => rw [h1, h2] at this; cases this
 | some e => cases h2 : H'[k]? with
  | none => rw [h1, h2] at this; cases this
  | some e' => rw [h1, h2] at this; simp at this; exact .inr ⟨e, e', rfl, rfl, this.1, this.2⟩
theorem jT {H H' : zb} (h : SameEl H H') : ∀ (n : Nat) (x : AVal), zj H n x = zj H' n x
 | 0, x => by cases x <;> simp [zj]
 | n + 1, x => by
  have ih : ∀ l, zP (zj H n) l = zP (zj H' n) l := mapO_congr (jT h n)
  cases x with
  | own k off len ver =>
   simp only [zj]
   rcases h.cases k with ⟨h1, h2⟩ | ⟨e, e', h1, h2, h3, h4⟩
   ·rw [h1, h2]
   ·simp only [h1, h2, h3, h4, ih]
  | optr k ver i off =>
   simp only [zj]
   rcases h.cases k with ⟨h1, h2⟩ | ⟨e, e', h1, h2, h3, h4⟩
   ·rw [h1, h2]
   ·simp only [h1, h2, h3, h4, ih]
  | _ => simp [zj, ih]
theorem uj {H H' : zb} (h : SameEl H H') : ∀ (n : Nat) (x : AVal), zi H n x = zi H' n x
 | 0, x => by cases x <;> simp [zi]
 | n + 1, x => by
  have ih : zi H n = zi H' n := funext (uj h n)
  cases x with
  | own k off len ver =>
   simp only [zi]
   rcases h.cases k with ⟨h1, h2⟩ | ⟨e, e', h1, h2, h3, h4⟩
   ·rw [h1, h2]
   ·simp only [h1, h2, h4, ih]
  | optr k ver i off =>
   simp only [zi]
   rcases h.cases k with ⟨h1, h2⟩ | ⟨e, e', h1, h2, h3, h4⟩
   ·rw [h1, h2]
   ·simp only [h1, h2, h4, ih]
  | _ => simp [zi, ih]
theorem fC (H : zb) (k : Nat) : SameEl H (freeze1 H k) := by
 intro i
 unfold freeze1
 cases hk : H[k]? with
 | none => rfl
 | some e =>
  by_cases hik : k = i
  ·subst hik
   have hk2 : k < H.length := (List.getElem?_eq_some_iff.1 hk).1
   rw [hk, List.getElem?_set]
   simp [hk2]
  ·simp [hik]
theorem jQ : ∀ (ks : List Nat) (H : zb), SameEl H (freezeL H ks)
 | [], _, _ => rfl
 | k :: ks, H, i => (fC H k i).trans (jQ ks (freeze1 H k) i)
theorem fo (H : zb) (k : Nat) : (freeze1 H k).length = H.length := by
 unfold freeze1; split <;> simp
theorem gq : ∀ (ks : List Nat) (H : zb), (freezeL H ks).length = H.length
 | [], _ => rfl
 | k :: ks, H => (gq ks (freeze1 H k)).trans (fo H k)
theorem kI : ∀ (ks : List Nat) (H : zb) (i : Nat) (e : Ent), (freezeL H ks)[i]? = some e → ∃ e0, H[i]? = some e0 ∧ e0.size = e.size ∧ e0.elems = e.elems
 | [], _, _, e, h => ⟨e, h, rfl, rfl⟩
 | k :: ks, H, i, e, h => by
  obtain ⟨e1, h1, h2, h3⟩ := kI ks (freeze1 H k) i e h
  obtain ⟨e0, g1, g2, g3⟩ := ia H k i e1 h1
  exact ⟨e0, g1, g2.trans h2, g3.trans h3⟩
def xZ (P : Program) (f : FuncId) (ps : List PVal) (x : PVal) : Prop :=
 ∃ fn e, P.funcs[f]? = some fn ∧ (fn.name == "runtime.NumGoroutine") = false ∧ fn.body.isNone = true ∧ (Extern.findNext fn).isNone = true ∧ Extern.find fn = some e ∧
  ∀ (pr : Prot) (w : World) (vs : List Value), vs.length = ps.length → (∀ (j : Nat) y v, ps[j]? = some y → vs[j]? = some v → PRep pr y v) → ∃ v, (e vs.toArray).run P w = .ok v w ∧ PRep pr x v
structure TabOk (P : Program) (base : Prot) (T : Tab) : Prop where
 fn : ∀ f args r E, T.fn f args = some (r, E) → ju P f = true ∧ Spec P base f (args.map .p) [] r E
 mu : ∀ f args H r H', T.mu f args H = some (r, H') → ju P f = true ∧ Spec P base f args H r H'
 ex : ∀ f ps x, T.ex f ps = some x → xZ P f ps x
theorem PRep.toRep {c : Ctx} {ps : List PVal} {vs : List Value} (hl : vs.length = ps.length) (h : ∀ (j : Nat) x v, ps[j]? = some x → vs[j]? = some v → PRep c.prot x v) : RepL c (ps.map .p) vs := by
 refine ⟨by simpa using hl, fun j x v h1 h2 => ?_⟩
 rw [List.getElem?_map] at h1
 obtain ⟨z, hz, rfl⟩ := Option.map_eq_some_iff.1 h1
 exact .p z v (h j z v hz h2)
theorem Inv.join {c : Ctx} {H E : zb} {w w' : World} {c0' : Ctx} (hI : Inv base c H w) (hs : Step ⟨[], c.prot⟩ w c0' w') (hI' : Inv base c0' E w') :
  Step c w ⟨c.locs ++ c0'.locs, c0'.prot⟩ w' ∧ Inv base ⟨c.locs ++ c0'.locs, c0'.prot⟩ (H ++ E.map (wH H.length)) w' := by
 have noloc : ∀ b, ¬ mC ⟨[], c.prot⟩ b := fun b ⟨k, l, cap, h, _⟩ => by simp at h
 have hnewb : ∀ b, mC c0' b → w.heap.size ≤ b := fun b h => (hs.newloc b h).resolve_left (noloc b)
 have hsplit : ∀ {k : Nat} {l : Loc}, (c.locs ++ c0'.locs)[k]? = some l → (k < c.locs.length ∧ c.locs[k]? = some l) ∨ (c.locs.length ≤ k ∧ c0'.locs[k - c.locs.length]? = some l) := by
  intro k l h
  by_cases hk : k < c.locs.length
  ·rw [List.getElem?_append_left hk] at h; exact .inl ⟨hk, h⟩
  ·rw [List.getElem?_append_right (by omega)] at h; exact .inr ⟨by omega, h⟩
 have hstep : Step c w ⟨c.locs ++ c0'.locs, c0'.prot⟩ w' := by
  refine ⟨hs.prot, fun k l h => ⟨l, (List.getElem?_append_left (List.getElem?_eq_some_iff.1 h).1).trans h, Nat.le_refl _, fun _ => rfl⟩, hs.os, hs.tape, hs.output, hs.size,
   fun b hb _ => hs.blk b hb (noloc b), fun b hb => ?_, fun b o v hv => ?_⟩
  ·obtain ⟨k, l, cap, h1, h2⟩ := hb
   rcases hsplit h1 with ⟨_, h3⟩ | ⟨_, h3⟩
   ·exact .inl ⟨k, l, cap, h3, h2⟩
   ·exact .inr (hnewb b ⟨_, l, cap, h3, h2⟩)
  ·rcases hs.newprot b o v hv with h | h | h
   ·exact .inl h
   ·exact .inr (.inl h)
   ·exact absurd h (noloc b)
 refine ⟨hstep, hI'.base, by simp [hI.len, hI'.len], hI'.prot, fun k e l h1 h2 => ?_, fun k k' l l' g cp cp' h1 h2 h3 h4 => ?_⟩
 ·rcases hsplit h2 with ⟨hk, h3⟩ | ⟨hk, h3⟩
  ·rw [List.getElem?_append_left (by rw [← hI.len]; exact hk)] at h1
   refine (hI.ent k e l h1 h3).keep hstep (fun g cap hl => hs.blk g (hI.loced_lt ⟨k, l, cap, h3, hl⟩) (noloc g)) (fun g cap o v hl hv => ?_)
   rcases hs.newprot g o v hv with h | h | h
   ·exact h
   ·have := hI.loced_lt ⟨k, l, cap, h3, hl⟩; omega
   ·exact absurd h (noloc g)
  ·rw [hI.len] at hk h3
   rw [List.getElem?_append_right hk, List.getElem?_map] at h1
   obtain ⟨e0, he0, rfl⟩ := Option.map_eq_some_iff.1 h1
   have ok := hI'.ent _ e0 l he0 h3
   refine ⟨ok.ver, ok.size, ok.pos, fun hm x hx => ?_, fun h => by simp [wH, ok.nowhere h], fun g cap cur ty fr hl hh => ok.typed g cap cur ty fr hl hh, fun g cap hl hm => ?_, fun g cap hl hm => ?_⟩
   ·simp only [wH, List.mem_map] at hx
    obtain ⟨z, hz, rfl⟩ := hx
    have := ok.cells hm z hz
    rw [nI]
    refine ⟨by simpa [wH] using this.1, fun y hy => ?_⟩
    obtain ⟨u, hu, rfl⟩ := List.mem_map.1 hy
    rw [gu]; exact this.2 u hu
   ·obtain ⟨es, ck, a1, a2, a3⟩ := ok.mapped g cap hl hm
    refine ⟨es, ck, a1, by simpa [wH] using a2, fun i x a => ?_⟩
    simp only [wH, List.getElem?_map] at a
    obtain ⟨z, hz, rfl⟩ := Option.map_eq_some_iff.1 a
    obtain ⟨me, k, y, p, q, rfl, s⟩ := a3 i z hz
    exact ⟨me, k, y, p, q, by simp [zk], s⟩
   ·obtain ⟨cur, ty, a1, a2, a3, a4, a5, a6⟩ := ok.there g cap hl hm
    refine ⟨cur, ty, a1, a2, a3, by simpa [wH] using a4, fun i x j y p q => ?_, fun o v ho => by simpa [wH] using a6 o v ho⟩
    simp only [wH, List.getElem?_map] at p
    obtain ⟨z, hz, rfl⟩ := Option.map_eq_some_iff.1 p
    rw [nI, List.getElem?_map] at q
    obtain ⟨u, hu, rfl⟩ := Option.map_eq_some_iff.1 q
    obtain ⟨v, r, s⟩ := a5 i z j u hz hu
    refine ⟨v, r, ?_⟩
    rw [← hI.len]
    exact s.shift
 ·rcases hsplit h1 with ⟨a1, a2⟩ | ⟨a1, a2⟩ <;> rcases hsplit h2 with ⟨b1, b2⟩ | ⟨b1, b2⟩
  ·exact hI.inj k k' l l' g cp cp' a2 b2 h3 h4
  ·have := hI.loced_lt ⟨k, l, cp, a2, h3⟩
   have := hnewb g ⟨_, l', cp', b2, h4⟩
   omega
  ·have := hI.loced_lt ⟨k', l', cp', b2, h4⟩
   have := hnewb g ⟨_, l, cp, a2, h3⟩
   omega
  ·have := hI'.inj _ _ l l' g cp cp' a2 b2 h3 h4
   omega
theorem callF_ok {T : Tab} (hT : TabOk P base T) {c : Ctx} {H : zb} {w : World} (hI : Inv base c H w) {f : FuncId} {args : List AVal} {vs : List Value} (hr : RepL c args vs) {x : AVal} {H' : zb}
  (h : mg T f args H = some (x, H')) :
  ju P f = true ∧ Calls P f vs.toArray w fun e w' => ∃ v c', e = .returned v ∧ Step c w c' w' ∧ Inv base c' H' w' ∧ Rep c' x v := by
 unfold mg at h
 cases hm : T.mu f args H with
 | some r =>
  rw [hm] at h
  cases h
  obtain ⟨h1, h2⟩ := hT.mu f args H x H' hm
  exact ⟨h1, h2 c w vs hI hr⟩
 | none =>
  rw [hm] at h
  cases hps : zP (zj H fuel) args with
  | none => rw [hps] at h; cases h
  | some ps =>
   rw [hps] at h
   simp only at h
   cases hf : T.fn f ps with
   | none => rw [hf] at h; cases h
   | some rE =>
    obtain ⟨r, E⟩ := rE
    rw [hf] at h
    simp only [Option.some.injEq, Prod.mk.injEq] at h
    obtain ⟨rfl, rfl⟩ := h
    obtain ⟨h1, h2⟩ := hT.fn f ps r E hf
    refine ⟨h1, ?_⟩
    obtain ⟨c1, e1, s1, i1, p1⟩ := hI.freezeL (args.flatMap (zi H fuel))
    have same := jQ (args.flatMap (zi H fuel)) H
    have hpr : ∀ (j : Nat) p v, ps[j]? = some p → vs[j]? = some v → PRep c1.prot p v := by
     intro j p v hj hv
     obtain ⟨y, a, b⟩ := vh hps j p hj
     rw [jT same] at b
     refine uy i1 fuel y v p ((hr.2 j y v a hv).step s1) b (fun k hk => ?_)
     rw [← uj same] at hk
     exact (p1 k (List.mem_flatMap.2 ⟨y, List.mem_of_getElem? a, hk⟩)).step rfl (fun _ _ _ h => h) (fun e he => kI _ H k e he)
      (fun e l g cap a b d o ho => hI.cell_at a (by rw [← e1]; exact b) d o ho)
    have hlen : vs.length = ps.length := by rw [(wK hps).1]; exact hr.1
    have i0 : Inv base ⟨[], c1.prot⟩ [] w := ⟨i1.base, rfl, i1.prot, fun k e l h => by simp at h, fun k k' l l' g cp cp' h => by simp at h⟩
    refine (h2 ⟨[], c1.prot⟩ w vs i0 (PRep.toRep hlen hpr)).mono fun e w' ⟨v, c0', he, hs, hi, hrep⟩ => ?_
    obtain ⟨js, ji⟩ := Inv.join i1 hs hi
    rw [gq] at ji
    refine ⟨v, _, he, s1.trans js, ji, ?_⟩
    have : c1.locs.length = H.length := by rw [e1, hI.len]
    rw [← this]
    exact Rep.shift (pre := c1.locs) (locs := c0'.locs) (pr := c0'.prot) hrep
end Go.Abs

namespace Go.Abs
variable {P : Program} {base : Prot}
def Sim (n : Nat) (c : Ctx) (fr : AFr) (a : Act) : Prop := a.tmps.size = n ∧ ∀ i, i < n → Rep c (fr i) (a.tmps.getD i undef)
def qK (base : Prot) (gl : Nat → AVal) : Prop := ∀ g (c : Ctx), Prot.le base c.prot → Rep c (gl g) (.pointer (some ⟨g, 0, none⟩))
theorem mb (c : Ctx) (v : Value) : Rep c (vp v) v := by
 cases v with
 | bool b => exact .p _ _ (.bool _)
 | int k n => exact .p _ _ (.int _ _)
 | float k b => exact .p _ _ (.flt _ _)
 | complex k a b => exact .p _ _ (.cpx _ _ _)
 | string s =>
  simp only [vp]
  split
  ·rename_i h
   refine .p _ _ ?_
   have := PRep.str (pr := c.prot) s.data.toList (by unfold maxLen; simpa using Nat.le_trans h (by omega))
   simpa using this
  ·exact .junk _
 | pointer a => cases a <;> simp only [vp, Option.isNone] <;> first | exact .p _ _ .nilp | exact .junk _
 | map a => cases a <;> simp only [vp, Option.isNone] <;> first | exact .nilm | exact .junk _
 | slice a n m =>
  simp only [vp]
  split
  ·rename_i h
   obtain ⟨h1, rfl, rfl⟩ := h
   exact .tight [] a 0 rfl (.lst [] a 0 0 0 0 0 (fun _ _ => undef) rfl (Nat.le_refl _) (Nat.zero_le _) (by simp) (by simp) (by simp) (by simp) (by simp)) (fun _ => by simpa using h1)
  ·exact .junk _
 | func fn first caps =>
  cases fn <;> simp only [vp] <;> try exact .junk _
  split
  ·rename_i h
   obtain ⟨h1, h2⟩ := h
   have e1 : first = #[] := Array.eq_empty_of_size_eq_zero h1
   have e2 : caps = #[] := Array.eq_empty_of_size_eq_zero h2
   subst e1; subst e2
   exact .p _ _ (.clo _ [] [] rfl (by simp))
  ·exact .junk _
 | nilFunc => exact .p _ _ .nilf
 | nilIface => exact .p _ _ .nili
 | _ => exact .junk _
theorem vq (c : Ctx) (v : Value) : Rep c (kP v) v := by
 cases v with
 | agg cs =>
  simp only [kP]
  split
  ·rename_i h
   have := mQ (c := c) (l := cs.toList.map vp) (vs := cs.toList) ⟨⟨by simp, fun j x v h1 h2 => by
    rw [List.getElem?_map, h2] at h1; simp at h1; subst h1; exact mb c v⟩, fun x hx => by
    rw [List.all_eq_true] at h; exact h x hx⟩
   simpa using this
  ·exact .junk _
 | _ => simp only [kP]; exact mb c _
section
variable {gl : Nat → AVal} {n : Nat}
theorem sx (hg : qK base gl) {c : Ctx} {fr : AFr} {a : Act} (hs : Sim n c fr a) (hb : Prot.le base c.prot) (o : Operand) : Rep c (opd fr (zY gl n o)) (a.eval o) := by
 cases o with
 | tmp t =>
  simp only [zY, Act.eval]
  split
  ·rename_i h; exact hs.2 t h
  ·exact .junk _
 | const v => exact vq c v
 | global g => exact hg g c hb
 | func f => exact .p _ _ (.clo f [] [] rfl (by simp))
theorem opds_ok (hg : qK base gl) {c : Ctx} {fr : AFr} {a : Act} (hs : Sim n c fr a) (hb : Prot.le base c.prot) (l : List Operand) : RepL c ((l.map (zY gl n)).map (opd fr)) (l.map a.eval) := by
 refine ⟨by simp, fun j x v h1 h2 => ?_⟩
 simp only [List.getElem?_map] at h1 h2
 cases hj : l[j]? with
 | none => simp [hj] at h1
 | some o => simp [hj] at h1 h2; subst h1; subst h2; exact sx hg hs hb o
end
def Done (P : Program) (base : Prot) (s : Sem Value) (c : Ctx) (w : World) (x : AVal) (H' : zb) : Prop :=
 ∃ v w' c', s.run P w = .ok v w' ∧ Step c w c' w' ∧ Inv base c' H' w' ∧ Rep c' x v
theorem Done.still {s : Sem Value} {c : Ctx} {w : World} {x : AVal} {H : zb} (hI : Inv base c H w) {v : Value} (h : s.run P w = .ok v w) (r : Rep c x v) : Done P base s c w x H :=
 ⟨v, w, c, h, .refl _ _, hI, r⟩
theorem jg (g o j : Nat) : (⟨g, o, none⟩ : Addr).add j = ⟨g, o + j, none⟩ := Addr.add_lit g o j
theorem aU {T : Tab} {c : Ctx} {H : zb} {w : World} (hI : Inv base c H w) {fr : AFr} {t : TypeId} {d : TypeDesc} (ht : P.underlying t = some d) {la : LOpd} {va : Value} (ra : Rep c (opd fr la) va) {x : AVal} {H' : zb}
  (h : zn T (.load (zh P t) (qY P t) la) fr H = some (x, H')) : ∃ v, (Instr.loadAt t va).run P w = .ok v w ∧ H' = H ∧ Rep c x v := by
 simp only [zn] at h
 split at h
 · -- own array
  rename_i k ver i off hla
  rw [hla] at ra
  cases hk : H[k]? with
  | none => rw [hk] at h; cases h
  | some e =>
   rw [hk] at h
   simp only at h
   split at h
   case isFalse => cases h
   rename_i hver
   cases hi : e.elems[i]? with
   | none => rw [hi] at h; cases h
   | some el =>
    rw [hi] at h
    simp only at h
    split at h
    case isFalse => cases h
    rename_i hlen
    cases hf : vj (qY P t) ((el.cells.drop off).take (zh P t)) with
    | none => rw [hf] at h; cases h
    | some y =>
     rw [hf] at h; cases h
     cases ra with
     | optr _ _ _ _ l v hl hv hh ho =>
      have he := hI.ent k e l hk hl
      obtain ⟨hmp, g, cap, hp, rfl⟩ := hh (by rw [he.ver]; exact hver.symm)
      have hcx := he.cells hmp el (List.mem_of_getElem? hi)
      -- the concrete cells
      have hrow : ∀ j, j < zh P t → ∃ v y, w.cell? ⟨g, i * l.size + off + j, none⟩ = some v ∧ el.cells[off + j]? = some y ∧ Rep c y v := by
       intro j hj
       have hj' : off + j < el.cells.length := by omega
       obtain ⟨v, h1, h2⟩ := hI.row hk hl hp hmp i (off + j) el el.cells[off + j] hi (by simp [hj'])
       exact ⟨v, el.cells[off + j], by rw [he.size]; rw [show i * e.size + off + j = i * e.size + (off + j) from by omega]; exact h1, by simp [hj'], h2⟩
      let vs := (List.range (zh P t)).map fun j => (w.cell? ⟨g, i * l.size + off + j, none⟩).getD undef
      have hvs : ∀ (j : Nat) v, vs[j]? = some v → j < zh P t ∧ w.cell? ⟨g, i * l.size + off + j, none⟩ = some v := by
       intro j v hj
       simp only [vs, List.getElem?_map] at hj
       have hjl : j < zh P t := by
        by_cases hc : j < zh P t
        ·exact hc
        ·rw [List.getElem?_eq_none (by simp; omega)] at hj; cases hj
       rw [List.getElem?_range hjl] at hj
       obtain ⟨v', y, h1, _⟩ := hrow j hjl
       simp [h1] at hj
       exact ⟨hjl, by rw [h1, hj]⟩
      have hrc : RepC c ((el.cells.drop off).take (zh P t)) vs := by
       refine ⟨⟨by simp [vs]; omega, fun j y v h1 h2 => ?_⟩, fun y hy => hcx.2 y (List.mem_of_mem_drop (List.mem_of_mem_take hy))⟩
       obtain ⟨hj, h3⟩ := hvs j v h2
       obtain ⟨v', y', h4, h5, h6⟩ := hrow j hj
       rw [h3] at h4; cases h4
       rw [List.getElem?_take] at h1
       simp only [hj, if_true, List.getElem?_drop] at h1
       rw [h5] at h1; cases h1
       exact h6
      obtain ⟨v, hv1, hv2⟩ := u4 hrc hf
      refine ⟨v, ?_, rfl, hv1⟩
      simp only [Instr.loadAt, Instr.sureAddr, Sem.run_bind, Sem.run_pure, Result.andThen_ok]
      exact bK ht w _ vs (by simp [vs]) (fun j v hj => by rw [jg]; exact (hvs j v hj).2) v hv2
 · -- an immutable row
  rename_i cells hla
  rw [hla] at ra
  split at h
  case isFalse => cases h
  rename_i hlen
  cases hf : vj (qY P t) ((cells.take (zh P t)).map .p) with
  | none => rw [hf] at h; cases h
  | some y =>
   rw [hf] at h; cases h
   cases ra with
   | p _ _ hp =>
    cases hp with
    | cptr _ blk off vals hp hr hk =>
     let vs := (List.range (zh P t)).map vals
     have hvs : ∀ (j : Nat) v, vs[j]? = some v → j < zh P t ∧ v = vals j := by
      intro j v hj
      simp only [vs, List.getElem?_map] at hj
      have hjl : j < zh P t := by
       by_cases hc : j < zh P t
       ·exact hc
       ·rw [List.getElem?_eq_none (by simp; omega)] at hj; cases hj
      rw [List.getElem?_range hjl] at hj
      simp at hj
      exact ⟨hjl, hj.symm⟩
     have hrc : RepC c ((cells.take (zh P t)).map .p) vs := by
      refine ⟨⟨by simp [vs]; omega, fun j y v h1 h2 => ?_⟩, fun y hy => ?_⟩
      ·obtain ⟨hj, rfl⟩ := hvs j v h2
       rw [List.getElem?_map, List.getElem?_take] at h1
       simp only [hj, if_true] at h1
       obtain ⟨z, hz, rfl⟩ := Option.map_eq_some_iff.1 h1
       exact .p _ _ (hr j z hz)
      ·obtain ⟨z, hz, rfl⟩ := List.mem_map.1 hy
       exact hk z (List.mem_of_mem_take hz)
     obtain ⟨v, hv1, hv2⟩ := u4 hrc hf
     refine ⟨v, ?_, rfl, hv1⟩
     simp only [Instr.loadAt, Instr.sureAddr, Sem.run_bind, Sem.run_pure, Result.andThen_ok]
     exact bK ht w _ vs (by simp [vs]) (fun j v hj => by
      obtain ⟨hj', rfl⟩ := hvs j v hj
      rw [jg]; exact hI.prot _ _ _ (hp j (by omega))) v hv2
 ·cases h
theorem load_ok {T : Tab} {c : Ctx} {H : zb} {w : World} (hI : Inv base c H w) {fr : AFr} {t : TypeId} {d : TypeDesc} (ht : P.underlying t = some d) {la : LOpd} {va : Value} (ra : Rep c (opd fr la) va) {x : AVal} {H' : zb}
  (h : zn T (.load (zh P t) (qY P t) la) fr H = some (x, H')) : Done P base (Instr.loadAt t va) c w x H' := by
 obtain ⟨v, h1, rfl, h2⟩ := aU hI ht ra h
 exact .still hI h1 h2
end Go.Abs
namespace Go.Abs
variable {P : Program} {base : Prot}
theorem zS {l : List AVal} (h : l.all AVal.isCell = true) : ∀ y ∈ l, y.isCell = true := fun y hy => List.all_eq_true.1 h y hy
theorem cells_list (v : Value) : v.cells.toList.toArray = v.cells := by simp
theorem newv_ok {c : Ctx} {H : zb} {w w1 : World} (hI : Inv base c H w) (hg : Grew w w1) (hsz : w1.heap.size = w.heap.size) {x : AVal} {v : Value} (r : Rep c x v) {size : Nat} (hlen : x.cells.length = size) (hpos : 0 < size) (hk : x.cells.all AVal.isCell = true) (ty : TypeId) :
  ∃ c', Step c w c' (w1.alloc (.cells v.cells ty)) ∧ Inv base c' (H ++ [⟨size, 0, false, [x], ty⟩]) (w1.alloc (.cells v.cells ty)) ∧ Rep c' (.optr H.length 0 0 0) (.pointer (some ⟨w.heap.size, 0, none⟩)) := by
 have hc := r.cells (zS hk)
 have hsize : v.cells.size = size := by have := hc.1.1; simp at this; omega
 obtain ⟨hs, hi⟩ := hI.alloc hg hsz size 1 [x] v.cells ty hpos (by rw [hsize]; omega) (by unfold maxLen; omega) (by simp) (fun y hy => by simp at hy; subst hy; exact ⟨hlen, zS hk⟩) (fun i y j z hi hj => by
  cases i with
  | zero =>
   simp at hi; subst hi
   have hjl : j < v.cells.toList.length := by rw [hc.1.1]; exact (List.getElem?_eq_some_iff.1 hj).1
   refine ⟨v.cells.toList[j], by simp at hjl; simp [hjl], ?_⟩
   exact hc.1.2 j z _ hj (by simp)
  | succ i => simp at hi)
 refine ⟨_, hs, hi, ?_⟩
 exact .optr _ 0 0 0 ⟨0, size, some (w.heap.size, 1), false⟩ _ (by simp [hI.len]) (Nat.le_refl _) (fun _ => ⟨rfl, w.heap.size, 1, rfl, by simp⟩) ⟨_, rfl⟩
theorem box_ok {T : Tab} {c : Ctx} {H : zb} {w : World} (hI : Inv base c H w) {fr : AFr} {t : TypeId} {size : Nat} {lx : LOpd} {vx : Value} (rx : Rep c (opd fr lx) vx) {x : AVal} {H' : zb}
  (h : zn T (.newv size t lx) fr H = some (x, H')) : Done P base (Instr.box t vx) c w x H' := by
 simp only [zn] at h
 split at h
 case isFalse => cases h
 rename_i hc
 obtain ⟨h1, h2, h3⟩ := hc
 cases h
 obtain ⟨c', a, b, d⟩ := newv_ok hI (.refl w) rfl rx h1 h2 h3 t
 exact ⟨_, _, c', by simp [Instr.box, newVar, newRow, newObj]; rfl, a, b, d⟩
theorem alloc_ok {T : Tab} {c : Ctx} {H : zb} {w : World} (hI : Inv base c H w) {fr : AFr} {t : TypeId} {size : Nat} {x : AVal} {H' : zb}
  (h : zn T (.newv size t (.cst (qb P t))) fr H = some (x, H')) : Done P base (Instr.alloc t true (.tuple #[])) c w x H' := by
 unfold qb at h
 cases hi : P.info? t with
 | none => simp [hi, zn, opd, AVal.cells, AVal.isCell] at h
 | some i =>
  cases hz : i.zero with
  | none => simp [hi, hz, zn, opd, AVal.cells, AVal.isCell] at h
  | some z =>
   simp only [hi, hz] at h
   obtain ⟨v, w', c', a, b⟩ := box_ok (P := P) (t := t) (vx := z) (lx := .cst (kP z)) hI (vq c z) h
   refine ⟨v, w', c', ?_, b⟩
   rw [← a]
   simp [Instr.alloc, Instr.box, zeroValue, typeInfo, hi, hz, Sem.run_bind]
theorem fadr_ok {T : Tab} {c : Ctx} {H : zb} {w : World} (hI : Inv base c H w) {fr : AFr} {t : TypeId} {fields : Array Field} {i : Nat} {f : Field} (ht : P.underlying t = some (.struct fields)) (hf : fields[i]? = some f)
  (hz : zh P f.type ≠ 0) {lx : LOpd} {vx : Value} (rx : Rep c (opd fr lx) vx) {x : AVal} {H' : zb} (h : zn T (.fadr f.offset lx) fr H = some (x, H')) : Done P base (Instr.fieldAt t vx i) c w x H' := by
 obtain ⟨d, hd⟩ := qv hz
 have run : ∀ g o, (Instr.fieldAt t (.pointer (some ⟨g, o, none⟩)) i).run P w = .ok (.pointer (some ⟨g, o + f.offset, none⟩)) w := fun g o => by
  simp [Instr.fieldAt, Instr.sureAddr, run_underlying ht, hf, fieldPlace, qy hd, hz, jg]
 simp only [zn] at h
 split at h
 ·rename_i k ver j o hx
  rw [hx] at rx
  cases hk : H[k]? with
  | none => rw [hk] at h; cases h
  | some e =>
   rw [hk] at h
   simp only at h
   split at h
   case isFalse => cases h
   rename_i hver
   cases h
   cases rx with
   | optr _ _ _ _ l v hl hv hh ho =>
    obtain ⟨hmp, g, cap, hp, rfl⟩ := hh (by rw [(hI.ent k e l hk hl).ver]; exact hver.symm)
    exact .still hI (run _ _) (.optr _ _ _ _ l _ hl hv (fun _ => ⟨hmp, g, cap, hp, by rw [Nat.add_assoc]⟩) ⟨_, rfl⟩)
 ·rename_i cells hx
  split at h
  case isFalse => cases h
  rename_i hlen
  cases h
  rw [hx] at rx
  cases rx with
  | p _ _ hp =>
   cases hp with
   | cptr _ blk off vals hp hr hk =>
    exact .still hI (run _ _) (.p _ _ (.cptr _ blk (off + f.offset) (fun j => vals (f.offset + j)) (fun j hj => by rw [Nat.add_assoc]; exact hp _ (by simp at hj; omega)) (fun j z hz => hr _ z (by simpa using hz)) (fun z hz => hk z (List.mem_of_mem_drop hz))))
 ·cases h
theorem vU {c : Ctx} {H : zb} {w : World} (hI : Inv base c H w) {k off len ver : Nat} {v : Value} (r : Rep c (.own k off len ver) v) {e : Ent} (hk : H[k]? = some e) (hver : e.ver = ver) :
  ∃ l, c.locs[k]? = some l ∧ EntOk c w e l ∧ OwnVal l off len v := by
 cases r with
 | own _ _ _ _ l v hl hv hh ho =>
  have he := hI.ent k e l hk hl
  exact ⟨l, hl, he, hh (by rw [he.ver]; exact hver.symm)⟩
theorem qU {c : Ctx} {x : AVal} {v : Value} {n : Int} (r : Rep c x v) (h : qZ x = some n) : ∃ k, v = .int k n := by
 cases x with
 | p y =>
  cases y <;> simp [qZ] at h
  subst h
  cases r with
  | p _ _ hp => cases hp; exact ⟨_, rfl⟩
 | _ => simp [qZ] at h
theorem iadr_ok {T : Tab} {c : Ctx} {H : zb} {w : World} (hI : Inv base c H w) {fr : AFr} {t el : TypeId} (ht : P.underlying t = some (.slice el)) (hel : zh P el ≠ 0)
  {lx li : LOpd} {vx vi : Value} (rx : Rep c (opd fr lx) vx) (ri : Rep c (opd fr li) vi) {x : AVal} {H' : zb} (h : zn T (.iadr (zh P el) lx li) fr H = some (x, H')) :
  Done P base (Instr.indexAt t vx vi) c w x H' := by
 obtain ⟨d, hd⟩ := qv hel
 simp only [zn] at h
 cases hi : qZ (opd fr li) with
 | none => rw [hi] at h; cases h
 | some i =>
  rw [hi] at h
  obtain ⟨ki, rfl⟩ := qU ri hi
  have run : ∀ (a : Addr) (len cap : Nat), 0 ≤ i → i < len → (Instr.indexAt t (.slice (some a) len cap) (.int ki i)).run P w = .ok (.pointer (some (a.add (i.toNat * zh P el)))) w := fun a len cap h0 h1 => by
   simp [Instr.indexAt, asIntOf, run_underlying ht, h0, h1, qy hd]
  have lstc : ∀ (es : List PVal) (v : Value), PRep c.prot (.lst es) v → (if 0 ≤ i then match es[i.toNat]? with
     | some e => if e.cells.length = zh P el then some (AVal.p (.cptr e.cells), H) else none
     | none => none
    else none) = some (x, H') → Done P base (Instr.indexAt t v (.int ki i)) c w x H' := by
   intro es v hp h
   split at h
   case isFalse => cases h
   rename_i h0
   cases he : es[i.toNat]? with
   | none => rw [he] at h; cases h
   | some e =>
    rw [he] at h
    simp only at h
    split at h
    case isFalse => cases h
    rename_i hsz
    cases h
    cases hp with
    | lst _ a len cap size blk off vals hl hc hm ha hs hp hr hk =>
     have hin : i.toNat < es.length := (List.getElem?_eq_some_iff.1 he).1
     have hne : es ≠ [] := by intro h; subst h; simp at hin
     have hse := hs e (List.mem_of_getElem? he)
     rw [ha hne]
     refine .still hI (run _ _ _ h0 (by omega)) ?_
     rw [jg]
     refine .p _ _ (.cptr _ blk _ (fun j => vals i.toNat j) (fun j hj => ?_) (fun j z hz => hr _ e j z he hz) (hk e (List.mem_of_getElem? he)))
     have := hp i.toNat j hin (by omega)
     rw [← hsz, hse]; exact this
  simp only at h
  split at h
  ·rename_i k off len ver hx
   rw [hx] at rx
   cases hk : H[k]? with
   | none => rw [hk] at h; cases h
   | some e =>
    rw [hk] at h
    simp only at h
    split at h
    case isFalse => cases h
    rename_i hc
    obtain ⟨h0, h1, hver, hsz⟩ := hc
    cases h
    obtain ⟨l, hl, he, hv⟩ := vU hI rx hk hver
    unfold OwnVal at hv
    cases hp : l.place with
    | none => simp only [hp] at hv; obtain ⟨_, a, _, _, h2, _⟩ := hv; omega
    | some q =>
     obtain ⟨g, cap⟩ := q
     simp only [hp] at hv
     obtain ⟨hmp, a, cp, rfl, _, _, _, h3⟩ := hv
     obtain ⟨rfl, rfl⟩ := h3 (.inl (by omega))
     refine .still hI (run _ _ _ h0 h1) ?_
     rw [jg]
     exact .optr _ _ _ _ l _ hl (by rw [he.ver, hver]; exact Nat.le_refl _) (fun _ => ⟨hmp, g, cap, hp, by rw [Nat.add_mul, he.size, hsz, Nat.add_zero]⟩) ⟨_, rfl⟩
  ·rename_i es hx
   rw [hx] at rx
   cases rx with
   | p _ _ hp => exact lstc es _ hp h
  ·rename_i es hx
   rw [hx] at rx
   cases rx with
   | tight _ a n hn hp hz => exact lstc es _ hp h
  ·cases h
end Go.Abs

namespace Go.Abs
variable {P : Program} {base : Prot}
theorem qu {α : Type} (cur vs : List α) (o : Nat) (h : o + vs.length ≤ cur.length) (i : Nat) :
  (cur.take o ++ vs ++ cur.drop (o + vs.length))[i]? = if o ≤ i ∧ i < o + vs.length then vs[i - o]? else cur[i]? := by
 by_cases h1 : i < o
 ·rw [List.append_assoc, List.getElem?_append_left (by simp; omega), List.getElem?_take]
  rw [if_pos h1, if_neg (by omega)]
 ·by_cases h2 : i < o + vs.length
  ·rw [List.append_assoc, List.getElem?_append_right (by simp; omega), List.getElem?_append_left (by simp; omega), if_pos (by omega)]
   congr 1
   simp; omega
  ·rw [List.getElem?_append_right (by simp; omega), List.getElem?_drop, if_neg (by omega)]
   congr 1
   simp; omega
theorem ve {α : Type} (cur vs : List α) (o : Nat) (h : o + vs.length ≤ cur.length) : (cur.take o ++ vs ++ cur.drop (o + vs.length)).length = cur.length := by
 simp; omega
theorem fT {x : AVal} (h : x.isAgg = false) : x.cells = [x] := by
 cases x with
 | p y => cases y <;> simp_all [AVal.isAgg, AVal.cells, PVal.cells]
 | agg l => simp [AVal.isAgg] at h
 | _ => rfl
theorem tT {el x el' : AVal} {off n size : Nat} (h : putCells el x off n = some el') (hs : el.cells.length = size) (hk : ∀ y ∈ el.cells, y.isCell = true) :
  x.cells.length = n ∧ off + n ≤ size ∧ el'.cells = el.cells.take off ++ x.cells ++ el.cells.drop (off + n) ∧ (∀ y ∈ el'.cells, y.isCell = true) ∧ (∀ y ∈ x.cells, y.isCell = true) := by
 unfold putCells at h
 split at h
 case isFalse => cases h
 rename_i hc
 obtain ⟨hc1, hc2⟩ := hc
 have hx := zS hc2
 split at h
 ·split at h
  case isFalse => cases h
  rename_i hle
  cases h
  rw [aP]
  refine ⟨hc1, by omega, rfl, fun y hy => ?_, hx⟩
  rcases List.mem_append.1 hy with h1 | h1
  ·rcases List.mem_append.1 h1 with h2 | h2
   ·exact hk y (List.mem_of_mem_take h2)
   ·exact hx y h2
  ·exact hk y (List.mem_of_mem_drop h1)
 ·rename_i hna
  split at h
  case isFalse => cases h
  rename_i h2
  obtain ⟨rfl, rfl, h3⟩ := h2
  cases h
  have : el.cells = [el] := fT (by simpa using hna)
  rw [this] at hs ⊢
  simp at hs
  refine ⟨hc1, by omega, by simp, hx, hx⟩
theorem Below.of_setRow {w : World} {g : Nat} {cs : Array Value} : (w.setRow g cs).heap.size = w.heap.size := by simp [World.setRow]
theorem Inv.setCells {c : Ctx} {H : zb} {w : World} (hI : Inv base c H w) {k : Nat} {e : Ent} {l : Loc} {g cap : Nat} (hk : H[k]? = some e) (hl : c.locs[k]? = some l) (hp : l.place = some (g, cap)) (hfz : e.froz = false)
  {cur : Array Value} {ty : TypeId} (hh : w.heap[g]? = some (.cells cur ty (0, 0))) (hcs : cur.size = cap * e.size) (hcm : cap ≤ maxLen) (cur' : Array Value) (hsz : cur'.size = cur.size) (elems' : List AVal) (hlen : elems'.length = e.elems.length)
  (hcells : ∀ x ∈ elems', x.cells.length = e.size ∧ ∀ y ∈ x.cells, y.isCell = true)
  (hrep : ∀ (i : Nat) x (j : Nat) y, elems'[i]? = some x → x.cells[j]? = some y → ∃ v, cur'[i * e.size + j]? = some v ∧ Rep c y v) :
  ∃ c', Step c w c' (w.setRow g cur') ∧ Inv base c' (H.set k ⟨e.size, e.ver, e.froz, elems', e.ty⟩) (w.setRow g cur') := by
 have he := hI.ent k e l hk hl
 have hmp : l.mp = false := he.arr hp hh
 obtain ⟨cur0, ty0, a1, a2, a3, a4, a5, a6⟩ := he.there g cap hp hmp
 have hprot : ∀ b o v, c.prot b o = some v → b ≠ g := fun b o v hv hb => by
  subst hb
  have := (a6 o v hv).1
  rw [hfz] at this; cases this
 have hok : EntOk c (w.setRow g cur') ⟨e.size, e.ver, e.froz, elems', e.ty⟩ l := by
  refine ⟨he.ver, he.size, he.pos, fun _ => hcells, fun h => ?_, fun g' cap' cur2 ty2 fr2 h hh2 => ?_, fun g' cap' h hm => (by rw [hmp] at hm; cases hm), fun g' cap' h _ => ?_⟩
  ·rw [h] at hp; cases hp
  ·rw [hp] at h; cases h
   rw [setRow_heap w g cur cur' ty (0, 0) hh] at hh2
   cases hh2
   exact he.typed g cap cur ty (0, 0) hp hh
  ·rw [hp] at h; cases h
   exact ⟨cur', ty, setRow_heap w g cur cur' ty (0, 0) hh, by rw [hsz]; exact hcs, hcm, by simp only [hlen]; exact a4, hrep, fun o v hv => absurd rfl (hprot g o v hv)⟩
 obtain ⟨hs, hi⟩ := hI.replace hl (w' := w.setRow g cur') ⟨e.size, e.ver, e.froz, elems', e.ty⟩ l rfl rfl rfl (by rw [Below.of_setRow]; exact Nat.le_refl _)
  (fun b hb hn => setRow_other w g b cur' (fun h => hn cap (by rw [hp, h]))) (Nat.le_refl _) (fun _ => rfl) (fun g' cap' h => .inl ⟨cap', h⟩)
  (fun b o v hv => by rw [cell_setRow_other w g cur' _ (hprot b o v hv)]; exact hI.prot b o v hv)
  hok
 have : (⟨c.locs.set k l, c.prot⟩ : Ctx) = c := by
  have hkl : k < c.locs.length := (List.getElem?_eq_some_iff.1 hl).1
  have : c.locs.set k l = c.locs := by
   apply List.ext_getElem?
   intro i
   by_cases hik : k = i
   ·subst hik; simp [hkl]; simpa [hkl] using hl.symm
   ·simp [hik]
  rw [this]
 rw [this] at hs hi
 exact ⟨c, hs, hi⟩
theorem store_ok {T : Tab} {c : Ctx} {H : zb} {w : World} (hI : Inv base c H w) {fr : AFr} {t : TypeId} {d : TypeDesc} (ht : P.underlying t = some d) {la lx : LOpd} {va vx : Value} (ra : Rep c (opd fr la) va) (rx : Rep c (opd fr lx) vx)
  {x : AVal} {H' : zb} (h : zn T (.store (zh P t) la lx) fr H = some (x, H')) :
  ∃ w' c', (Instr.storeAt t va vx).run P w = .ok () w' ∧ Step c w c' w' ∧ Inv base c' H' w' ∧ x = .p (.tup []) := by
 simp only [zn] at h
 split at h
 case h_2 => cases h
 rename_i k ver i off hla
 rw [hla] at ra
 cases hk : H[k]? with
 | none => rw [hk] at h; cases h
 | some e =>
  rw [hk] at h
  simp only at h
  split at h
  case isFalse => cases h
  rename_i hc
  obtain ⟨hver, hfz⟩ := hc
  cases hi : e.elems[i]? with
  | none => rw [hi] at h; cases h
  | some el =>
   rw [hi] at h
   simp only at h
   cases hput : putCells el (opd fr lx) off (zh P t) with
   | none => rw [hput] at h; cases h
   | some el' =>
    rw [hput] at h; cases h
    cases ra with
    | optr _ _ _ _ l v hl hv hh ho =>
     have he := hI.ent k e l hk hl
     obtain ⟨hmp, g, cap, hp, rfl⟩ := hh (by rw [he.ver]; exact hver.symm)
     obtain ⟨cur, ty, a1, a2, a3, a4, a5, a6⟩ := he.there g cap hp hmp
     have hcx := he.cells hmp el (List.mem_of_getElem? hi)
     obtain ⟨p1, p2, p3, p4, p5⟩ := tT hput hcx.1 hcx.2
     have hin : i < e.elems.length := (List.getElem?_eq_some_iff.1 hi).1
     have rc := rx.cells p5
     have hvlen : vx.cells.toList.length = zh P t := by rw [rc.1.1]; exact p1
     have hbound : i * e.size + off + zh P t ≤ cur.size := by
      rw [a2]
      have h1 : (i + 1) * e.size ≤ cap * e.size := Nat.mul_le_mul_right _ (by omega)
      rw [Nat.add_mul, Nat.one_mul] at h1
      omega
     have hrun := run_storeCells_at P g (i * e.size + off) ty vx.cells.toList 0 cur w a1 (by rw [hvlen]; omega) rc.ones
     simp only [Nat.add_zero] at hrun
     have hbl : i * e.size + off + vx.cells.toList.length ≤ cur.toList.length := by rw [hvlen]; simpa using hbound
     obtain ⟨c', hs, hI'⟩ := hI.setCells hk hl hp hfz a1 a2 a3 (cur.toList.take (i * e.size + off) ++ vx.cells.toList ++ cur.toList.drop (i * e.size + off + vx.cells.toList.length)).toArray
      (by rw [List.size_toArray, ve _ _ _ hbl]; simp) (e.elems.set i el') (by simp) (fun y hy => by
       rcases List.mem_or_eq_of_mem_set hy with h1 | h1
       ·exact he.cells hmp y h1
       ·subst h1
        refine ⟨?_, p4⟩
        rw [p3]; simp; omega) (fun i' y j z hy hz => by
       rw [List.getElem?_toArray, qu _ _ _ hbl, hvlen]
       by_cases hii : i = i'
       ·subst hii
        simp [hin] at hy
        subst hy
        rw [p3, ← p1, qu _ _ _ (by rw [p1]; omega)] at hz
        rw [p1] at hz
        by_cases hj : off ≤ j ∧ j < off + zh P t
        ·rw [if_pos hj] at hz
         rw [if_pos (by omega)]
         have hjj : j - off < vx.cells.toList.length := by omega
         refine ⟨vx.cells.toList[j - off], ?_, rc.1.2 (j - off) z _ hz (by simp)⟩
         rw [show i * e.size + j - (i * e.size + off) = j - off from by omega]
         simp
        ·rw [if_neg hj] at hz
         rw [if_neg (by omega)]
         obtain ⟨v, q1, q2⟩ := a5 i el j z hi hz
         exact ⟨v, by simpa using q1, q2⟩
       ·simp [hii] at hy
        have hj : j < e.size := by
         have := (he.cells hmp y (List.mem_of_getElem? hy)).1
         rw [← this]; exact (List.getElem?_eq_some_iff.1 hz).1
        rw [if_neg (by
         intro hcon
         rcases Nat.lt_or_gt_of_ne hii with h1 | h1
         ·have h2 : (i + 1) * e.size ≤ i' * e.size := Nat.mul_le_mul_right _ (by omega)
          rw [Nat.add_mul, Nat.one_mul] at h2
          omega
         ·have h2 : (i' + 1) * e.size ≤ i * e.size := Nat.mul_le_mul_right _ (by omega)
          rw [Nat.add_mul, Nat.one_mul] at h2
          omega)]
        obtain ⟨v, q1, q2⟩ := a5 i' y j z hy hz
        exact ⟨v, by simpa using q1, q2⟩)
     refine ⟨_, c', ?_, hs, hI', rfl⟩
     have hvs : vx.cells.size = zh P t := by simpa using hvlen
     simp only [Instr.storeAt, Instr.sureAddr, Sem.run_bind, Sem.run_pure, Result.andThen_ok, storeVar, qy ht, hvs]
     simp only [ne_eq, not_true, if_false]
     rw [he.size]
     exact hrun
theorem yc {e : TypeId} (h : (qb P e).cells.all AVal.isCell = true) : ∃ i z, P.info? e = some i ∧ i.zero = some z ∧ qb P e = kP z := by
 unfold qb at *
 cases hi : P.info? e with
 | none => simp [hi, AVal.cells, AVal.isCell] at h
 | some i =>
  cases hz : i.zero with
  | none => simp [hi, hz, AVal.cells, AVal.isCell] at h
  | some z => exact ⟨i, z, rfl, hz, by simp [hz]⟩
theorem gP (z : Array Value) (size n i j : Nat) (hz : z.size = size) (hj : j < size) (hi : i < n) : (madeCells z (n * size))[i * size + j]? = some z[j] := by
 have hlt : i * size + j < n * size := by
  have h1 : (i + 1) * size ≤ n * size := Nat.mul_le_mul_right _ (by omega)
  rw [Nat.add_mul, Nat.one_mul] at h1
  omega
 unfold madeCells
 rw [Array.getElem?_map, Array.getElem?_range, if_pos hlt]
 have : (i * size + j) % z.size = j := by rw [hz, Nat.mul_comm, Nat.mul_add_mod, Nat.mod_eq_of_lt hj]
 simp only [this, Option.map_some, Option.some.injEq]
 rw [getElem!_pos z j (by omega)]
theorem mksl_ok {T : Tab} {c : Ctx} {H : zb} {w : World} (hI : Inv base c H w) {fr : AFr} {t e : TypeId} (ht : P.underlying t = some (.slice e)) {ll lc : LOpd} {vl vc : Value} (rl : Rep c (opd fr ll) vl) (rc : Rep c (opd fr lc) vc)
  {x : AVal} {H' : zb} (h : zn T (.mksl (zh P e) (ku P e) e (qb P e) ll lc) fr H = some (x, H')) : Done P base (Instr.makeSlice t vl vc) c w x H' := by
 simp only [zn] at h
 split at h
 case h_2 => cases h
 rename_i l cc hl hc
 split at h
 case isFalse => cases h
 rename_i hcond
 obtain ⟨h0, hlc, hb, hm, hzl, hpos, hzk⟩ := hcond
 cases h
 obtain ⟨kl, rfl⟩ := qU rl hl
 obtain ⟨kc, rfl⟩ := qU rc hc
 obtain ⟨i, z, hi, hz, hze⟩ := yc hzk
 have hu := qv (P := P) (t := e) (by omega)
 obtain ⟨d, hd⟩ := hu
 have hsz : zh P e = i.size := by simp [zh, hd, hi]
 have hbt : ku P e = i.bytes := by simp [ku, hi]
 rw [hze] at hzl hzk
 have rz := (vq c z).cells (zS hzk)
 have hzs : z.cells.size = zh P e := by have := rz.1.1; simp at this; omega
 have hcm : cc ≤ 9223372036854775807 := by unfold maxLen at hm; omega
 have hrun := run_make (P := P) w t e i z ht hi hz kl kc l cc h0 hlc (by
  rw [← hbt]
  have : (ku P e : Int) * cc = cc * ku P e := Int.mul_comm _ _
  rw [this]; omega) hcm
 rw [← hsz] at hrun
 have hln : l.toNat ≤ cc.toNat := by omega
 obtain ⟨hs, hI'⟩ := hI.alloc (.refl w) rfl (zh P e) cc.toNat (List.replicate l.toNat (qb P e)) (madeCells z.cells (cc.toNat * zh P e)) e hpos (size_madeCells _ _) (by omega) (by simpa using hln)
  (fun y hy => by
   rw [(List.mem_replicate.1 hy).2, hze]; exact ⟨hzl, zS hzk⟩)
  (fun i' y j u hy hu => by
   rw [List.getElem?_replicate] at hy
   split at hy
   case isFalse => cases hy
   rename_i hi'
   cases hy
   rw [hze] at hu
   have hj : j < zh P e := by rw [← hzl]; exact (List.getElem?_eq_some_iff.1 hu).1
   refine ⟨z.cells[j], gP _ _ _ _ _ hzs hj (by omega), ?_⟩
   exact rz.1.2 j u _ hu (by simp [hzs, hj]))
 refine ⟨_, _, _, hrun, hs, hI', ?_⟩
 refine .own _ _ _ _ ⟨0, zh P e, some (w.heap.size, cc.toNat), false⟩ _ (by simp [hI.len]) (Nat.le_refl _) (fun _ => ?_) ⟨_, _, _, rfl⟩
 exact ⟨rfl, _, _, rfl, hln, by omega, by omega, fun _ => by simp⟩
theorem lm : ∀ (l : List Value) (s off : Nat) (vs : List Value), off + s + l.length ≤ vs.length →
  (l.zipIdx s).foldl (fun (cs : Array Value) (p : Value × Nat) => cs.setIfInBounds (off + p.2) p.1) vs.toArray = (vs.take (off + s) ++ l ++ vs.drop (off + s + l.length)).toArray
 | [], s, off, vs, _ => by simp
 | a :: l, s, off, vs, h => by
  simp only [List.length_cons] at h
  simp only [List.zipIdx_cons, List.foldl_cons, List.setIfInBounds_toArray]
  rw [lm l (s + 1) off (vs.set (off + s) a) (by simp; omega)]
  congr 1
  apply List.ext_getElem?
  intro i
  rw [qu _ _ _ (by simp; omega)]
  have := qu vs (a :: l) (off + s) (by simp; omega) i
  rw [this]
  simp only [List.length_cons]
  by_cases h1 : i = off + s
  ·subst h1
   rw [if_neg (by omega), if_pos (by omega), Nat.sub_self, List.getElem?_cons_zero, List.getElem?_set_self (by omega)]
  ·by_cases h2 : off + (s + 1) ≤ i ∧ i < off + (s + 1) + l.length
   ·rw [if_pos h2, if_pos (by omega)]
    rw [show i - (off + s) = (i - (off + (s + 1))) + 1 from by omega, List.getElem?_cons_succ]
   ·rw [if_neg h2, if_neg (by omega), List.getElem?_set_ne (by omega)]
theorem fill_ok {c : Ctx} {opv : LOpd → AVal} {place : Nat → Option (Nat × Nat)} : ∀ (parts : List (Nat × Nat × LOpd)) (mparts : List (Nat × Value)) (cells : List AVal) (vs : List Value) (r : List AVal), RepC c cells vs → mparts.length = parts.length →
  (∀ (j : Nat) p q, parts[j]? = some p → mparts[j]? = some q → (place q.1 = some (p.1, p.2.1) ∨ (p.2.2 = .cst .junk)) ∧ Rep c (opv p.2.2) q.2) → (∀ x, opv (.cst x) = x) →
  qA opv cells parts = some r → ∃ vs', Instr.fill place vs.toArray mparts = some vs'.toArray ∧ RepC c r vs'
 | [], [], cells, vs, r, h, _, _, _, he => by simp [qA] at he; subst he; exact ⟨vs, by simp [Instr.fill], h⟩
 | [], q :: qs, _, _, _, _, hl, _, _, _ => by simp at hl
 | p :: ps, [], _, _, _, _, hl, _, _, _ => by simp at hl
 | (off, size, x) :: ps, (i, v) :: qs, cells, vs, r, h, hl, hp, hc, he => by
  simp only [qA] at he
  split at he
  case isFalse => cases he
  rename_i hcond
  obtain ⟨h1, h2, h3⟩ := hcond
  obtain ⟨hpl, hr⟩ := hp 0 (off, size, x) (i, v) rfl rfl
  have hplace : place i = some (off, size) := by
   rcases hpl with h4 | h4
   ·exact h4
   ·simp only at h4; rw [h4, hc] at h3; simp [AVal.cells, AVal.isCell] at h3
  have rc := Rep.cells hr (zS h3)
  have hvl : v.cells.size = size := by have := rc.1.1; simp at this; omega
  have hlen := h.1.1
  have hfit : off + v.cells.toList.length ≤ vs.length := by simp; omega
  have hzip : v.cells.zipIdx.foldl (fun cs (c, j) => cs.setIfInBounds (off + j) c) vs.toArray = (vs.take off ++ v.cells.toList ++ vs.drop (off + v.cells.toList.length)).toArray := by
   have := lm v.cells.toList 0 off vs (by simpa using hfit)
   rw [Nat.add_zero] at this
   rw [← this, ← Array.foldl_toList]
   simp
  have rc' : RepC c (cells.take off ++ (opv x).cells ++ cells.drop (off + size)) (vs.take off ++ v.cells.toList ++ vs.drop (off + size)) := ((h.take off).append rc).append (h.drop _)
  obtain ⟨vs', g1, g2⟩ := fill_ok ps qs _ _ r rc' (by simpa using hl) (fun j p q a b => hp (j + 1) p q a b) hc he
  refine ⟨vs', ?_, g2⟩
  simp only [Instr.fill, hplace]
  rw [if_neg (by simp; omega), hzip, ← g1]
  simp [hvl]
theorem places_ok {fields : Array Field} (h : fields.toList.all (fun f => (P.underlying f.type).isSome) = true) :
  fields.toList.mapM (fun f => (P.info? f.type).map fun i => (f.offset, i.size)) = some (fields.toList.map fun f => (f.offset, zh P f.type)) := by
 generalize fields.toList = l at h
 induction l with
 | nil => rfl
 | cons f l ih =>
  simp only [List.all_cons, Bool.and_eq_true] at h
  obtain ⟨d, hd⟩ := Option.isSome_iff_exists.1 h.1
  obtain ⟨i, hi⟩ := bX hd
  simp only [List.mapM_cons, List.map_cons]
  rw [ih h.2]
  simp [hi, zh, hd]
theorem iH {T : Tab} {c : Ctx} {H : zb} {w : World} (hI : Inv base c H w) {fr : AFr} {t : TypeId} {place : Nat → Option (Nat × Nat)} {parts : List (Nat × Nat × LOpd)} {mparts : List (Nat × Value)} (hl : mparts.length = parts.length)
  (hp : ∀ (j : Nat) p q, parts[j]? = some p → mparts[j]? = some q → (place q.1 = some (p.1, p.2.1) ∨ (p.2.2 = .cst .junk)) ∧ Rep c (opd fr p.2.2) q.2)
  (hpl : ∀ i z, P.info? t = some i → i.zero = some z → ∀ r, Instr.fill place z.cells mparts = some r → P.built t mparts = some r)
  {x : AVal} {H' : zb} (h : zn T (.build (qb P t) parts) fr H = some (x, H')) : Done P base (Instr.build t mparts.toArray) c w x H' := by
 simp only [zn] at h
 split at h
 case isFalse => cases h
 rename_i hk
 obtain ⟨i, z, hi, hz, hze⟩ := yc hk
 rw [hze] at h hk
 cases hf : qA (opd fr) (kP z).cells parts with
 | none => rw [hf] at h; cases h
 | some cs =>
  rw [hf] at h; cases h
  have rz := (vq c z).cells (zS hk)
  obtain ⟨vs', g1, g2⟩ := fill_ok (place := place) parts mparts _ _ cs rz hl hp (fun _ => rfl) hf
  rw [cells_list] at g1
  exact .still hI (run_build (P := P) w t _ _ (by simpa using hpl i z hi hz _ g1)) (mQ g2)
theorem sY {c : Ctx} {opv : LOpd → AVal} {size : Nat} : ∀ (parts : List (Nat × LOpd)) (mparts : List (Nat × Value)) (es : List AVal) (vs : List Value) (r : List AVal),
  vs.length = es.length * size → (∀ x ∈ es, x.cells.length = size ∧ ∀ y ∈ x.cells, y.isCell = true) →
  (∀ (i : Nat) x (j : Nat) y, es[i]? = some x → x.cells[j]? = some y → ∃ v, vs[i * size + j]? = some v ∧ Rep c y v) → mparts.length = parts.length →
  (∀ (j : Nat) p q, parts[j]? = some p → mparts[j]? = some q → q.1 = p.1 ∧ Rep c (opv p.2) q.2) →
  zN opv size es parts = some r → ∃ vs' : List Value, Instr.fill (fun i => some (i * size, size)) vs.toArray mparts = some vs'.toArray ∧ vs'.length = r.length * size ∧ r.length = es.length ∧
   (∀ x ∈ r, x.cells.length = size ∧ ∀ y ∈ x.cells, y.isCell = true) ∧ (∀ (i : Nat) x (j : Nat) y, r[i]? = some x → x.cells[j]? = some y → ∃ v, vs'[i * size + j]? = some v ∧ Rep c y v)
 | [], [], es, vs, r, hl, hk, hr, _, _, he => by simp [zN] at he; subst he; exact ⟨vs, by simp [Instr.fill], hl, rfl, hk, hr⟩
 | [], q :: qs, _, _, _, _, _, _, hl, _, _ => by simp at hl
 | p :: ps, [], _, _, _, _, _, _, hl, _, _ => by simp at hl
 | (i, x) :: ps, (i', v) :: qs, es, vs, r, hl, hk, hr, hlen, hp, he => by
  simp only [zN] at he
  split at he
  case isFalse => cases he
  rename_i hcond
  obtain ⟨h1, h2, h3⟩ := hcond
  obtain ⟨rfl, rx⟩ := hp 0 (i, x) (i', v) rfl rfl
  simp only at rx h2
  have rc := Rep.cells rx (zS h3)
  have hvl : v.cells.toList.length = size := by rw [rc.1.1]; exact h1
  have hb : i' * size + size ≤ vs.length := by
   rw [hl]
   have h4 : (i' + 1) * size ≤ es.length * size := Nat.mul_le_mul_right _ (by omega)
   rw [Nat.add_mul, Nat.one_mul] at h4
   exact h4
  have hfit : i' * size + v.cells.toList.length ≤ vs.length := by omega
  have hzip := lm v.cells.toList 0 (i' * size) vs (by simpa using hfit)
  rw [Nat.add_zero] at hzip
  have hzip' : v.cells.zipIdx.foldl (fun (cs : Array Value) (p : Value × Nat) => cs.setIfInBounds (i' * size + p.2) p.1) vs.toArray = (vs.take (i' * size) ++ v.cells.toList ++ vs.drop (i' * size + v.cells.toList.length)).toArray := by
   rw [← hzip, ← Array.foldl_toList]
   simp
  obtain ⟨vs', g1, g2, g3, g4, g5⟩ := sY ps qs (es.set i' (opv x)) (vs.take (i' * size) ++ v.cells.toList ++ vs.drop (i' * size + v.cells.toList.length)) r
   (by rw [ve _ _ _ hfit]; simpa using hl)
   (fun y hy => by
    rcases List.mem_or_eq_of_mem_set hy with h4 | h4
    ·exact hk y h4
    ·subst h4; exact ⟨h1, zS h3⟩)
   (fun k y j z hy hz => by
    rw [qu _ _ _ hfit, hvl]
    by_cases hik : i' = k
    ·subst hik
     simp [h2] at hy
     subst hy
     have hj : j < size := by rw [← h1]; exact (List.getElem?_eq_some_iff.1 hz).1
     rw [if_pos (by omega), show i' * size + j - i' * size = j from by omega]
     refine ⟨v.cells.toList[j]'(by omega), by simp, rc.1.2 j z _ hz (by simp)⟩
    ·simp [hik] at hy
     have hj : j < size := by rw [← (hk y (List.mem_of_getElem? hy)).1]; exact (List.getElem?_eq_some_iff.1 hz).1
     rw [if_neg (by
      intro hcon
      rcases Nat.lt_or_gt_of_ne hik with h4 | h4
      ·have h5 : (i' + 1) * size ≤ k * size := Nat.mul_le_mul_right _ (by omega)
       rw [Nat.add_mul, Nat.one_mul] at h5
       omega
      ·have h5 : (k + 1) * size ≤ i' * size := Nat.mul_le_mul_right _ (by omega)
       rw [Nat.add_mul, Nat.one_mul] at h5
       omega)]
     exact hr k y j z hy hz)
   (by simpa using hlen) (fun j p q a b => hp (j + 1) p q a b) he
  refine ⟨vs', ?_, g2, by simpa using g3, g4, g5⟩
  simp only [Instr.fill]
  rw [if_neg (by simp at hvl ⊢; omega)]
  rw [← g1]
  exact congrArg (fun z => Instr.fill _ z qs) hzip'
theorem buildSl_ok {T : Tab} {c : Ctx} {H : zb} {w : World} (hI : Inv base c H w) {fr : AFr} {t e : TypeId} (ht : P.underlying t = some (.slice e)) {len : Nat} {parts : List (Nat × LOpd)} {mparts : List (Nat × Value)} (hl : mparts.length = parts.length)
  (hp : ∀ (j : Nat) p q, parts[j]? = some p → mparts[j]? = some q → q.1 = p.1 ∧ Rep c (opd fr p.2) q.2)
  {x : AVal} {H' : zb} (h : zn T (.buildSl (zh P e) e (qb P e) len parts) fr H = some (x, H')) : Done P base (Instr.buildSlice t len mparts.toArray) c w x H' := by
 simp only [zn] at h
 split at h
 case isFalse => cases h
 rename_i hcond
 obtain ⟨hzl, hpos, hsmall, hzk⟩ := hcond
 cases hf : zN (opd fr) (zh P e) (List.replicate len (qb P e)) parts with
 | none => rw [hf] at h; cases h
 | some es =>
  rw [hf] at h; cases h
  obtain ⟨i, z, hi, hz, hze⟩ := yc hzk
  obtain ⟨d, hd⟩ := qv (P := P) (t := e) (by omega)
  have hsz : zh P e = i.size := by simp [zh, hd, hi]
  rw [hze] at hzl hzk hf
  have rz := (vq c z).cells (zS hzk)
  have hzs : z.cells.size = zh P e := by have := rz.1.1; simp at this; omega
  have zrep : ∀ (i' : Nat) y (j : Nat) u, (List.replicate len (kP z))[i']? = some y → y.cells[j]? = some u → ∃ v, (madeCells z.cells (len * zh P e)).toList[i' * zh P e + j]? = some v ∧ Rep c u v := by
   intro i' y j u hy hu
   rw [List.getElem?_replicate] at hy
   split at hy
   case isFalse => cases hy
   rename_i hi'
   cases hy
   have hj : j < zh P e := by rw [← hzl]; exact (List.getElem?_eq_some_iff.1 hu).1
   refine ⟨z.cells[j], ?_, rz.1.2 j u _ hu (by simp [hzs, hj])⟩
   have := gP _ _ _ _ _ hzs hj hi'
   simpa using this
  obtain ⟨vs', g1, g2, g3, g4, g5⟩ := sY parts mparts _ (madeCells z.cells (len * zh P e)).toList es (by simp [size_madeCells]) (fun y hy => by
   rw [(List.mem_replicate.1 hy).2]; exact ⟨hzl, zS hzk⟩) zrep hl hp hf
  simp only [List.length_replicate] at g3
  obtain ⟨hs, hI'⟩ := hI.alloc (.refl w) rfl (zh P e) len es vs'.toArray e hpos (by simp [g2, g3]) (by unfold maxLen; have := Nat.le_mul_of_pos_right len hpos; omega) (by omega) g4 (fun i x j y a b => by
   obtain ⟨v, p, q⟩ := g5 i x j y a b
   exact ⟨v, by simpa using p, q⟩)
  have hrun : (Instr.buildSlice t len mparts.toArray).run P w = .ok (.slice (some ⟨w.heap.size, 0, none⟩) len len) (w.alloc (.cells vs'.toArray e)) := by
   have g1' : Instr.fill (fun i => some (i * zh P e, zh P e)) (madeCells z.cells (len * zh P e)) mparts = some vs'.toArray := by simpa using g1
   rw [hsz] at g1'
   by_cases h0 : len * i.size = 0
   ·have hlen0 : len = 0 := by
     rcases Nat.mul_eq_zero.1 h0 with h | h
     ·exact h
     ·omega
    subst hlen0
    have e0 : madeCells z.cells (0 * i.size) = #[] := by apply Array.eq_empty_of_size_eq_zero; rw [size_madeCells]; simp
    rw [e0] at g1'
    simp [Instr.buildSlice, run_underlying ht, sizeOf, typeInfo, hi, newRow, newObj]
    rw [show Array.map (fun _ => (default : Value)) (Array.range 0) = #[] from Array.eq_empty_of_size_eq_zero (by simp), g1']
    rfl
   ·exact run_buildSlice w t e len mparts.toArray vs'.toArray i z ht hi hz (by rw [← hsz]; omega) h0 g1'
  refine ⟨_, _, _, hrun, hs, hI', ?_⟩
  refine .own _ _ _ _ ⟨0, zh P e, some (w.heap.size, len), false⟩ _ (by simp [hI.len]) (Nat.le_refl _) (fun _ => ?_) ⟨_, _, _, rfl⟩
  exact ⟨rfl, _, _, rfl, Nat.le_refl _, by unfold maxLen; have := Nat.le_mul_of_pos_right len hpos; omega, by omega, fun _ => by simp⟩
theorem PRep.lst_slice {pr : Prot} {es : List PVal} {v : Value} (h : PRep pr (.lst es) v) : ∃ a cap, v = .slice a es.length cap ∧ es.length ≤ cap ∧ cap ≤ maxLen := by
 cases h with
 | lst _ a len cap size blk off vals hl hc hm => subst hl; exact ⟨a, cap, rfl, hc, hm⟩
theorem PRep.sub {pr : Prot} {es : List PVal} {a : Option Addr} {n cap : Nat} (h : PRep pr (.lst es) (.slice a n cap)) (l hh m size : Nat) (hs : ∀ e ∈ es, e.cells.length = size) (h1 : l ≤ hh) (h2 : hh ≤ es.length) (h3 : hh ≤ m) (h4 : m ≤ cap) :
  PRep pr (.lst ((es.take hh).drop l)) (.slice (if m = l then a else a.map (·.add (l * size))) (hh - l) (m - l)) := by
 cases h with
 | lst _ _ _ _ size' blk off vals hl hc hm ha hs' hp hr hk =>
  have hlen : ((es.take hh).drop l).length = hh - l := by simp; omega
  refine .lst _ _ _ _ size' blk (off + l * size') (fun i j => vals (l + i) j) hlen.symm (by omega) (by omega) ?_ (fun e he => hs' e (List.mem_of_mem_take (List.mem_of_mem_drop he))) ?_ ?_ (fun e he => hk e (List.mem_of_mem_take (List.mem_of_mem_drop he)))
  ·intro hne
   have hpos : 0 < hh - l := by rw [← hlen]; exact List.length_pos_iff.2 hne
   have hes : es ≠ [] := by intro h; subst h; simp at h2; omega
   obtain ⟨e, he⟩ := List.exists_mem_of_ne_nil es hes
   have : size = size' := (hs e he).symm.trans (hs' e he)
   subst this
   rw [if_neg (by omega), ha hes]
   simp [jg]
  ·intro i j hi hj
   have := hp (l + i) j (by omega) hj
   rw [Nat.add_mul] at this
   rw [show off + l * size' + i * size' + j = off + (l * size' + i * size') + j from by omega]
   exact this
  ·intro i e j x he hx
   rw [List.getElem?_drop, List.getElem?_take] at he
   split at he
   ·exact hr (l + i) e j x he hx
   ·cases he
theorem yP {w : World} {isSlice : Bool} {len cap : Nat} {lo hi : Option Value} {l h : Nat} (hlo : lo = none ∧ l = 0 ∨ ∃ k, lo = some (.int k (l : Int))) (hhi : hi = none ∧ h = len ∨ ∃ k, hi = some (.int k (h : Int))) (h1 : l ≤ h) (h2 : h ≤ cap) :
  (Instr.sliceBounds isSlice len cap lo hi none).run P w = .ok (l, h, cap) w := by
 have e1 : ¬ ((cap : Int) < h) := by omega
 have e2 : ¬ ((h : Int) < l) := by omega
 have e3 : ¬ ((len : Int) < l) ∨ h ≠ len := by omega
 rcases hlo with ⟨rfl, rfl⟩ | ⟨k, rfl⟩ <;> rcases hhi with ⟨rfl, rfl⟩ | ⟨k', rfl⟩
 ·simp [Instr.sliceBounds]
 ·simp [Instr.sliceBounds, Instr.sliceBound, asIntOf, h2]
 ·simp [Instr.sliceBounds, Instr.sliceBound, asIntOf, h1]
 ·simp [Instr.sliceBounds, Instr.sliceBound, asIntOf, h1, h2]
theorem eZ {w : World} {isSlice : Bool} {len cap : Nat} {lo : Option Value} {kh km : IntKind} {l h : Nat} (hlo : lo = none ∧ l = 0 ∨ ∃ k, lo = some (.int k (l : Int))) (h1 : l ≤ h) (h2 : h ≤ cap) :
  (Instr.sliceBounds isSlice len cap lo (some (.int kh h)) (some (.int km h))).run P w = .ok (l, h, h) w := by
 rcases hlo with ⟨rfl, rfl⟩ | ⟨k, rfl⟩
 ·simp [Instr.sliceBounds, Instr.sliceBound, asIntOf, h2]
 ·simp [Instr.sliceBounds, Instr.sliceBound, asIntOf, h1, h2]
theorem eY {w : World} {isSlice : Bool} {len cap : Nat} {lo : Option Value} {kh km : IntKind} {l h m : Nat} (hlo : lo = none ∧ l = 0 ∨ ∃ k, lo = some (.int k (l : Int))) (h1 : l ≤ h) (h2 : h ≤ m) (h3 : m ≤ cap) :
  (Instr.sliceBounds isSlice len cap lo (some (.int kh h)) (some (.int km m))).run P w = .ok (l, h, m) w := by
 rcases hlo with ⟨rfl, rfl⟩ | ⟨k, rfl⟩
 ·simp [Instr.sliceBounds, Instr.sliceBound, asIntOf, h2, h3]
 ·simp [Instr.sliceBounds, Instr.sliceBound, asIntOf, h1, h2, h3]
theorem q7 {c : Ctx} {fr : AFr} {d : Nat} {lo : Option LOpd} {vlo : Option Value} {i : Int} (hn : vlo.isNone = lo.isNone) (hr : ∀ x v, lo = some x → vlo = some v → Rep c (opd fr x) v) (h : yU fr d lo = some i) :
  (lo = none ∧ vlo = none ∧ i = d) ∨ ∃ k, vlo = some (.int k i) := by
 cases lo with
 | none =>
  cases vlo with
  | none => simp [yU] at h; exact .inl ⟨rfl, rfl, h.symm⟩
  | some v => simp at hn
 | some x =>
  cases vlo with
  | none => simp at hn
  | some v =>
   simp only [yU] at h
   obtain ⟨k, rfl⟩ := qU (hr x v rfl rfl) h
   exact .inr ⟨k, rfl⟩
theorem eH {c : Ctx} {H : zb} {w : World} (hI : Inv base c H w) {fr : AFr} {t e : TypeId} (ht : P.underlying t = some (.slice e)) (hel : zh P e ≠ 0) {lo hi mx : Option LOpd} {vlo vhi vmx : Option Value}
  (nlo : vlo.isNone = lo.isNone) (nhi : vhi.isNone = hi.isNone) (nmx : vmx.isNone = mx.isNone)
  (rlo : ∀ x v, lo = some x → vlo = some v → Rep c (opd fr x) v) (rhi : ∀ x v, hi = some x → vhi = some v → Rep c (opd fr x) v) (rmx : ∀ x v, mx = some x → vmx = some v → Rep c (opd fr x) v)
  {x : AVal} {H' : zb} (es : List PVal) (v : Value) (hp : PRep c.prot (.lst es) v) (h : (match yU fr 0 lo, yU fr es.length hi with
   | some l, some h => if 0 ≤ l ∧ l ≤ h ∧ h ≤ es.length ∧ (lo.isNone || u3 (zh P e) es) = true then
     match (generalizing := false) mx with
     | none => some (AVal.p (.lst ((es.take h.toNat).drop l.toNat)), H)
     | some m => if (qZ (opd fr m) = some h ∧ hi.isSome = true) ∧ l < h then some (.tight ((es.take h.toNat).drop l.toNat), H) else none
    else none
   | _, _ => none) = some (x, H')) : Done P base (Instr.sliceAt t v vlo vhi vmx) c w x H' := by
 obtain ⟨d, hd⟩ := qv hel
 -- what the model's expression is, once the bounds are known
 have run : ∀ (a : Option Addr) (len cap l hh m : Nat), (Instr.sliceBounds true len cap vlo vhi vmx).run P w = .ok (l, hh, m) w →
   (Instr.sliceAt t (.slice a len cap) vlo vhi vmx).run P w = .ok (.slice (if m = l then a else a.map (·.add (l * zh P e))) (hh - l) (m - l)) w := fun a len cap l hh m hb => by
  simp [Instr.sliceAt, Instr.slice, run_underlying ht, hb, qy hd]
 split at h
 case h_2 => cases h
 rename_i l hh h1 h2
 split at h
 case isFalse => cases h
 rename_i hc
 obtain ⟨c0, c1, c2, c3⟩ := hc
 obtain ⟨a, cap, rfl, hcap, hmax⟩ := hp.lst_slice
 obtain ⟨l, rfl⟩ := Int.eq_ofNat_of_zero_le c0
 obtain ⟨hh, rfl⟩ := Int.eq_ofNat_of_zero_le (Int.le_trans c0 c1)
 simp only [Int.toNat_natCast] at h
 have blo : vlo = none ∧ l = 0 ∨ ∃ k, vlo = some (.int k (l : Int)) := by
  rcases q7 nlo rlo h1 with ⟨_, q1, q2⟩ | q
  ·exact .inl ⟨q1, by omega⟩
  ·exact .inr q
 have bhi : vhi = none ∧ hh = es.length ∨ ∃ k, vhi = some (.int k (hh : Int)) := by
  rcases q7 nhi rhi h2 with ⟨_, q1, q2⟩ | q
  ·exact .inl ⟨q1, by omega⟩
  ·exact .inr q
 -- the sizes of the elements matter where the slice does not begin at 0
 have sub : ∀ m, hh ≤ m → m ≤ cap → PRep c.prot (.lst ((es.take hh).drop l)) (.slice (if m = l then a else a.map (·.add (l * zh P e))) (hh - l) (m - l)) := by
  intro m m1 m2
  by_cases hlo : lo.isNone = true
  ·have hl0 : l = 0 := by
    rcases q7 nlo rlo h1 with ⟨_, _, q2⟩ | ⟨k, q⟩
    ·omega
    ·rw [q] at nlo; rw [hlo] at nlo; simp at nlo
   subst hl0
   cases hp with
   | lst _ _ _ _ size' blk off vals hl hc hm ha hs' hpp hr hk =>
    have := PRep.sub (.lst es a es.length cap size' blk off vals hl hc hm ha hs' hpp hr hk) 0 hh m size' hs' (by omega) (by omega) m1 m2
    by_cases hm0 : m = 0
    ·simpa [hm0] using this
    ·have ea : a.map (·.add (0 * size')) = a.map (·.add (0 * zh P e)) := by simp
     rw [if_neg hm0] at this ⊢
     rw [← ea]; exact this
  ·have hsz : u3 (zh P e) es = true := by simpa [hlo] using c3
   exact hp.sub l hh m (zh P e) (fun y hy => by simpa using List.all_eq_true.1 hsz y hy) (by omega) (by omega) m1 m2
 cases mx with
 | none =>
  simp only at h
  cases h
  have : vmx = none := by cases vmx with | none => rfl | some v => simp at nmx
  subst this
  exact .still hI (run _ _ _ _ _ _ (yP blo bhi (by omega) (by omega))) (.p _ _ (sub cap (by omega) (Nat.le_refl _)))
 | some m =>
  simp only at h
  split at h
  case isFalse => cases h
  rename_i hm0
  have hm := hm0.1
  have hlt0 := hm0.2
  cases h
  cases vmx with
  | none => simp at nmx
  | some v =>
   obtain ⟨km, rfl⟩ := qU (rmx m v rfl rfl) hm.1
   have hvhi : ∃ k, vhi = some (.int k (hh : Int)) := by
    rcases q7 nhi rhi h2 with ⟨q0, _, _⟩ | q
    ·rw [q0] at hm; simp at hm
    ·exact q
   obtain ⟨kh, rfl⟩ := hvhi
   refine .still hI (run _ _ _ _ _ _ (eZ blo (by omega) (by omega))) ?_
   have := sub hh (Nat.le_refl _) (by omega)
   have hlt : l < hh := by omega
   exact .tight _ _ _ (by simp; omega) this (fun e => by have := congrArg List.length e; simp at this; omega)
theorem slSl_ok {T : Tab} {c : Ctx} {H : zb} {w : World} (hI : Inv base c H w) {fr : AFr} {t e : TypeId} (ht : P.underlying t = some (.slice e)) (hel : zh P e ≠ 0) {lx : LOpd} {lo hi mx : Option LOpd} {vx : Value} {vlo vhi vmx : Option Value}
  (rx : Rep c (opd fr lx) vx) (nlo : vlo.isNone = lo.isNone) (nhi : vhi.isNone = hi.isNone) (nmx : vmx.isNone = mx.isNone)
  (rlo : ∀ x v, lo = some x → vlo = some v → Rep c (opd fr x) v) (rhi : ∀ x v, hi = some x → vhi = some v → Rep c (opd fr x) v) (rmx : ∀ x v, mx = some x → vmx = some v → Rep c (opd fr x) v)
  {x : AVal} {H' : zb} (h : zn T (.slSl (zh P e) lx lo hi mx) fr H = some (x, H')) : Done P base (Instr.sliceAt t vx vlo vhi vmx) c w x H' := by
 obtain ⟨d, hd⟩ := qv hel
 -- what the model's expression is, once the bounds are known
 have run : ∀ (a : Option Addr) (len cap l hh m : Nat), (Instr.sliceBounds true len cap vlo vhi vmx).run P w = .ok (l, hh, m) w →
   (Instr.sliceAt t (.slice a len cap) vlo vhi vmx).run P w = .ok (.slice (if m = l then a else a.map (·.add (l * zh P e))) (hh - l) (m - l)) w := fun a len cap l hh m hb => by
  simp [Instr.sliceAt, Instr.slice, run_underlying ht, hb, qy hd]
 simp only [zn] at h
 split at h
 ·rename_i k off len ver hx
  rw [hx] at rx
  split at h
  ·rename_i m
   cases hk : H[k]? with
   | none => rw [hk] at h; cases h
   | some en =>
    rw [hk] at h
    simp only at h
    split at h
    case h_2 => cases h
    rename_i l hh mm h1 h2 h3
    split at h
    case isFalse => cases h
    rename_i hc
    obtain ⟨c0, c1, c2, c3, c4, hver⟩ := hc
    cases h
    cases vmx with
    | none => simp at nmx
    | some v =>
     obtain ⟨km, rfl⟩ := qU (rmx m v rfl rfl) h3
     have hvhi : ∃ k, vhi = some (.int k hh) := by
      rcases q7 nhi rhi h2 with ⟨q0, _, _⟩ | q
      ·rw [q0] at c4; simp at c4
      ·exact q
     obtain ⟨kh, rfl⟩ := hvhi
     obtain ⟨l, rfl⟩ := Int.eq_ofNat_of_zero_le c0
     obtain ⟨hh, rfl⟩ := Int.eq_ofNat_of_zero_le (Int.le_trans c0 c1)
     obtain ⟨mm, rfl⟩ := Int.eq_ofNat_of_zero_le (Int.le_trans (Int.le_trans c0 c1) c2)
     have blo : vlo = none ∧ l = 0 ∨ ∃ k, vlo = some (.int k (l : Int)) := by
      rcases q7 nlo rlo h1 with ⟨_, q1, q2⟩ | q
      ·exact .inl ⟨q1, by omega⟩
      ·exact .inr q
     obtain ⟨lc, hl, he, hv⟩ := vU hI rx hk hver
     obtain ⟨a, cp, rfl, p1, p2⟩ := hv.slice
     exact .still hI (run a len cp l hh mm (eY blo (by omega) (by omega) (by omega))) (.junk _)
  cases hk : H[k]? with
  | none => rw [hk] at h; cases h
  | some en =>
   rw [hk] at h
   simp only at h
   split at h
   case h_2 => cases h
   rename_i l hh h1 h2
   split at h
   case isFalse =>
    split at h
    case isFalse => cases h
    rename_i hc
    obtain ⟨c0, c1, rfl, c2, hver, hsz⟩ := hc
    cases h
    have : vmx = none := by cases vmx with | none => rfl | some v => simp at nmx
    subst this
    obtain ⟨l, rfl⟩ := Int.eq_ofNat_of_zero_le c0
    obtain ⟨hh, rfl⟩ := Int.eq_ofNat_of_zero_le (Int.le_trans c0 c1)
    have blo : vlo = none ∧ l = 0 ∨ ∃ k, vlo = some (.int k (l : Int)) := by
     rcases q7 nlo rlo h1 with ⟨_, q1, q2⟩ | q
     ·exact .inl ⟨q1, by omega⟩
     ·exact .inr q
    have bhi : vhi = none ∧ hh = len ∨ ∃ k, vhi = some (.int k (hh : Int)) := by
     rcases q7 nhi rhi h2 with ⟨_, q1, q2⟩ | q
     ·exact .inl ⟨q1, by omega⟩
     ·exact .inr q
    obtain ⟨lc, hl, he, hv⟩ := vU hI rx hk hver
    obtain ⟨a, cp, rfl, p1, p2⟩ := hv.slice
    have hcp : hh ≤ cp := by
     have hv2 := hv
     unfold OwnVal at hv2
     cases hp : lc.place with
     | none =>
      have := he.nowhere hp
      rw [this] at c2
      simp at c2
      omega
     | some q =>
      obtain ⟨g, cap⟩ := q
      simp only [hp] at hv2
      obtain ⟨hmp, a', cp', q1, q2, q3, q4, q5⟩ := hv2
      cases q1
      obtain ⟨cur, ty', a1, a2, a3, a4, a5, a6⟩ := he.there g cap hp hmp
      have := (q5 (.inr trivial)).2
      omega
    refine .still hI (run a len cp l hh cp (yP blo bhi (by omega) hcp)) ?_
    have e1 : ((hh : Int) - (l : Int)).toNat = hh - l := by omega
    rw [e1, Int.toNat_natCast]
    refine .own _ _ _ _ lc _ hl (by rw [he.ver, hver]; exact Nat.le_refl _) (fun _ => ?_) ⟨_, _, _, rfl⟩
    unfold OwnVal at hv ⊢
    cases hp : lc.place with
    | none =>
     have h0 := he.nowhere hp
     rw [h0] at c2
     simp only [hp] at hv ⊢
     obtain ⟨hmp, a', q1, _, rfl, q4⟩ := hv
     cases q1
     have : hh = 0 := by simp at c2; omega
     subst this
     have : l = 0 := by omega
     subst this
     exact ⟨hmp, _, rfl, rfl, rfl, by simpa using q4⟩
    | some q =>
     obtain ⟨g, cap⟩ := q
     simp only [hp] at hv ⊢
     obtain ⟨hmp, a', cp', q1, q2, q3, q4, q5⟩ := hv
     cases q1
     obtain ⟨cur, ty', a1, a2, a3, a4, a5, a6⟩ := he.there g cap hp hmp
     obtain ⟨rfl, q6⟩ := q5 (.inr trivial)
     refine ⟨hmp, _, _, rfl, by omega, by omega, by omega, fun hor => ?_⟩
     constructor
     ·by_cases hml : cp = l
      ·rw [if_pos hml]
       rcases hor with h | h
       ·omega
       ·subst h; simp
      ·rw [if_neg hml]
       simp only [Option.map_some, jg]
       rw [he.size, hsz]
       simp
     ·omega
   rename_i hc
   obtain ⟨c0, c1, c2, hver, hsz⟩ := hc
   cases h
   have : vmx = none := by cases vmx with | none => rfl | some v => simp at nmx
   subst this
   obtain ⟨l, rfl⟩ := Int.eq_ofNat_of_zero_le c0
   obtain ⟨hh, rfl⟩ := Int.eq_ofNat_of_zero_le (Int.le_trans c0 c1)
   have blo : vlo = none ∧ l = 0 ∨ ∃ k, vlo = some (.int k (l : Int)) := by
    rcases q7 nlo rlo h1 with ⟨_, q1, q2⟩ | q
    ·exact .inl ⟨q1, by omega⟩
    ·exact .inr q
   have bhi : vhi = none ∧ hh = len ∨ ∃ k, vhi = some (.int k (hh : Int)) := by
    rcases q7 nhi rhi h2 with ⟨_, q1, q2⟩ | q
    ·exact .inl ⟨q1, by omega⟩
    ·exact .inr q
   obtain ⟨lc, hl, he, hv⟩ := vU hI rx hk hver
   obtain ⟨a, cp, rfl, p1, p2⟩ := hv.slice
   refine .still hI (run a len cp l hh cp (yP blo bhi (by omega) (by omega))) ?_
   have e1 : ((hh : Int) - (l : Int)).toNat = hh - l := by omega
   rw [e1, Int.toNat_natCast]
   refine .own _ _ _ _ lc _ hl (by rw [he.ver, hver]; exact Nat.le_refl _) (fun _ => ?_) ⟨_, _, _, rfl⟩
   unfold OwnVal at hv ⊢
   cases hp : lc.place with
   | none =>
    simp only [hp] at hv ⊢
    obtain ⟨hmp, a', q1, rfl, rfl, q4⟩ := hv
    cases q1
    have : hh = 0 := by omega
    subst this
    have : l = 0 := by omega
    subst this
    exact ⟨hmp, _, rfl, rfl, rfl, by simpa using q4⟩
   | some q =>
    obtain ⟨g, cap⟩ := q
    simp only [hp] at hv ⊢
    obtain ⟨hmp, a', cp', q1, q2, q3, q4, q5⟩ := hv
    cases q1
    refine ⟨hmp, _, _, rfl, by omega, by omega, by omega, fun hor => ?_⟩
    have hlen : 0 < len ∨ off = 0 := by
     rcases hor with h | h
     ·left; omega
     ·right; omega
    obtain ⟨rfl, rfl⟩ := q5 hlen
    constructor
    ·by_cases hml : cap - off = l
     ·rw [if_pos hml]
      rcases hor with h | h
      ·omega
      ·have : off = 0 := by omega
       have : l = 0 := by omega
       subst this
       rw [Nat.add_zero]
     ·rw [if_neg hml]
      simp only [Option.map_some, jg]
      rw [he.size, hsz, Nat.add_mul]
    ·omega
 ·rename_i es hx
  rw [hx] at rx
  cases rx with
  | p _ _ hp => exact eH hI ht hel nlo nhi nmx rlo rhi rmx es _ hp h
 ·rename_i es hx
  rw [hx] at rx
  cases rx with
  | tight _ a n hn hp hz => subst hn; exact eH hI ht hel nlo nhi nmx rlo rhi rmx es _ hp h
 ·cases h
theorem slStr_ok {T : Tab} {c : Ctx} {H : zb} {w : World} (hI : Inv base c H w) {fr : AFr} {t : TypeId} (ht : P.underlying t = some .string) {lx : LOpd} {lo hi : Option LOpd} {vx : Value} {vlo vhi : Option Value}
    (rx : Rep c (opd fr lx) vx) (nlo : vlo.isNone = lo.isNone) (nhi : vhi.isNone = hi.isNone)
    (rlo : ∀ x v, lo = some x → vlo = some v → Rep c (opd fr x) v) (rhi : ∀ x v, hi = some x → vhi = some v → Rep c (opd fr x) v)
    {x : AVal} {H' : zb} (h : zn T (.slStr lx lo hi) fr H = some (x, H')) : Done P base (Instr.sliceAt t vx vlo vhi none) c w x H' := by
  simp only [zn] at h
  split at h
  case h_2 => cases h
  rename_i s hx
  rw [hx] at rx
  split at h
  case h_2 => cases h
  rename_i l hh h1 h2
  split at h
  case isFalse => cases h
  rename_i hc
  obtain ⟨c0, c1, c2⟩ := hc
  cases h
  obtain ⟨l, rfl⟩ := Int.eq_ofNat_of_zero_le c0
  obtain ⟨hh, rfl⟩ := Int.eq_ofNat_of_zero_le (Int.le_trans c0 c1)
  have blo : vlo = none ∧ l = 0 ∨ ∃ k, vlo = some (.int k (l : Int)) := by
    rcases q7 nlo rlo h1 with ⟨_, q1, q2⟩ | q
    · exact .inl ⟨q1, by omega⟩
    · exact .inr q
  have bhi : vhi = none ∧ hh = s.length ∨ ∃ k, vhi = some (.int k (hh : Int)) := by
    rcases q7 nhi rhi h2 with ⟨_, q1, q2⟩ | q
    · exact .inl ⟨q1, by omega⟩
    · exact .inr q
  cases rx with
  | p _ _ hp =>
    cases hp with
    | str _ hs =>
      have hb := yP (P := P) (w := w) (isSlice := false) (len := s.length) (cap := s.length) blo bhi (by omega) (by omega)
      have hsz : (⟨s.toArray⟩ : ByteArray).size = s.length := by simp [ByteArray.size]
      refine .still hI (v := .string ((⟨s.toArray⟩ : ByteArray).extract l hh)) ?_ ?_
      · simp [Instr.sliceAt, Instr.slice, run_underlying ht, hsz, hb]
      · simp only [Int.toNat_natCast]
        have : (⟨s.toArray⟩ : ByteArray).extract l hh = ⟨((s.take hh).drop l).toArray⟩ := by
          apply ByteArray.ext
          rw [ByteArray.data_extract]
          simp only [List.extract_toArray, List.extract_eq_take_drop, List.drop_take]
        rw [this]
        exact .p _ _ (.str _ (by simp; omega))
theorem istr_ok {T : Tab} {c : Ctx} {H : zb} {w : World} (hI : Inv base c H w) {fr : AFr} {t : TypeId} (ht : P.underlying t = some .string) {lx li : LOpd} {vx vi : Value}
    (rx : Rep c (opd fr lx) vx) (ri : Rep c (opd fr li) vi) {x : AVal} {H' : zb} (h : zn T (.istr lx li) fr H = some (x, H')) : Done P base (Instr.index t vx vi) c w x H' := by
  simp only [zn] at h
  split at h
  case h_2 => cases h
  rename_i s i hx hi
  rw [hx] at rx
  obtain ⟨k, rfl⟩ := qU ri hi
  split at h
  case isFalse => cases h
  rename_i h0
  cases hb : s[i.toNat]? with
  | none => rw [hb] at h; cases h
  | some b =>
    rw [hb] at h; cases h
    cases rx with
    | p _ _ hp =>
      cases hp with
      | str _ hs =>
        have hget : (⟨s.toArray⟩ : ByteArray)[i.toNat]? = some b := by
          have hlt : i.toNat < s.length := (List.getElem?_eq_some_iff.1 hb).1
          have hv := (List.getElem?_eq_some_iff.1 hb).2
          rw [getElem?_pos _ _ (by simpa [ByteArray.size] using hlt)]
          congr 1
        refine .still hI (v := .int .u8 b.toNat) ?_ (.p _ _ (.int _ _))
        simp [Instr.index, asIntOf, run_underlying ht, h0, hget]
theorem run_part {t : TypeId} {d : TypeDesc} (h : P.underlying t = some d) (w : World) (vs : List Value) (off : Nat) (v : Value)
    (hv : if qY P t = true then v = .agg ((vs.drop off).take (zh P t)).toArray else (vs.drop off).take (zh P t) = [v]) : (part t vs.toArray off).run P w = .ok v w := by
  unfold part
  simp only [Sem.run_bind, cD h, Result.andThen_ok]
  cases hb : qY P t with
  | true =>
    simp only [hb, if_true] at hv ⊢
    subst hv
    simp only [Sem.run_bind, qy h, Result.andThen_ok, Sem.run_pure]
    congr 2
    simp [List.extract_toArray, List.extract_eq_take_drop]
  | false =>
    simp only [hb, Bool.false_eq_true, if_false] at hv ⊢
    have h0 : ((vs.drop off).take (zh P t))[0]? = some v := by rw [hv]; rfl
    rw [List.getElem?_take] at h0
    split at h0
    · simp only [List.getElem?_drop, Nat.add_zero] at h0
      simp [h0]
    · cases h0
theorem isAgg_rep {c : Ctx} {x : AVal} {v : Value} (r : Rep c x v) (h : x.isAgg = true) : ∃ vs : List Value, v = .agg vs.toArray ∧ RepC c x.cells vs := by
  cases r with
  | p x v hp =>
    cases hp with
    | agg cells vs hl hr hk =>
      refine ⟨vs, rfl, ⟨by simp [AVal.cells, PVal.cells, hl], fun j y u h1 h2 => ?_⟩, fun y hy => ?_⟩
      · simp only [AVal.cells, PVal.cells, List.getElem?_map] at h1
        obtain ⟨z, hz, rfl⟩ := Option.map_eq_some_iff.1 h1
        exact .p _ _ (hr j z u hz h2)
      · simp only [AVal.cells, PVal.cells] at hy
        obtain ⟨z, hz, rfl⟩ := List.mem_map.1 hy
        exact hk z hz
    | _ => simp [AVal.isAgg] at h
  | agg cells vs hl hr hk => exact ⟨vs, rfl, ⟨hl, hr⟩, hk⟩
  | _ => simp [AVal.isAgg] at h
theorem part_ok {c : Ctx} {x y : AVal} {v : Value} {t : TypeId} {d : TypeDesc} (ht : P.underlying t = some d) (w : World) (r : Rep c x v) (hag : x.isAgg = true) {off : Nat}
    (hf : vj (qY P t) ((x.cells.drop off).take (zh P t)) = some y) : ∃ vs : List Value, v = .agg vs.toArray ∧ ∃ u, (part t vs.toArray off).run P w = .ok u w ∧ Rep c y u := by
  obtain ⟨vs, rfl, rc⟩ := isAgg_rep r hag
  obtain ⟨u, h1, h2⟩ := u4 ((rc.drop off).take (zh P t)) hf
  exact ⟨vs, rfl, u, run_part ht w vs off u h2, h1⟩
theorem fld_ok {T : Tab} {c : Ctx} {H : zb} {w : World} (hI : Inv base c H w) {fr : AFr} {t : TypeId} {fields : Array Field} {i : Nat} {f : Field} {d : TypeDesc} (ht : P.underlying t = some (.struct fields)) (hf : fields[i]? = some f) (hd : P.underlying f.type = some d)
    {lx : LOpd} {vx : Value} (rx : Rep c (opd fr lx) vx) {x : AVal} {H' : zb} (h : zn T (.fld f.offset (zh P f.type) (qY P f.type) lx) fr H = some (x, H')) : Done P base (Instr.field t vx i) c w x H' := by
  simp only [zn] at h
  split at h
  case isFalse => cases h
  rename_i hc
  split at h
  case h_2 => cases h
  rename_i y hy
  cases h
  obtain ⟨vs, rfl, u, h1, h2⟩ := part_ok hd w rx hc.2 hy
  exact .still hI (by simp [Instr.field, run_underlying ht, hf, asAgg, h1]) h2
theorem iarr_ok {T : Tab} {c : Ctx} {H : zb} {w : World} (hI : Inv base c H w) {fr : AFr} {t e : TypeId} {len : Nat} {d : TypeDesc} (ht : P.underlying t = some (.array len e)) (hd : P.underlying e = some d)
    {lx li : LOpd} {vx vi : Value} (rx : Rep c (opd fr lx) vx) (ri : Rep c (opd fr li) vi) {x : AVal} {H' : zb} (h : zn T (.iarr len (zh P e) (qY P e) lx li) fr H = some (x, H')) : Done P base (Instr.index t vx vi) c w x H' := by
  simp only [zn] at h
  cases hi : qZ (opd fr li) with
  | none => rw [hi] at h; cases h
  | some i =>
    rw [hi] at h
    simp only at h
    obtain ⟨k, rfl⟩ := qU ri hi
    split at h
    case isFalse => cases h
    rename_i hc
    obtain ⟨c0, c1, _, c3⟩ := hc
    split at h
    case h_2 => cases h
    rename_i y hy
    cases h
    obtain ⟨vs, rfl, u, h1, h2⟩ := part_ok hd w rx c3 hy
    exact .still hI (by simp [Instr.index, asIntOf, run_underlying ht, c0, c1, qy hd, h1]) h2
theorem iaadr_ok {T : Tab} {c : Ctx} {H : zb} {w : World} (hI : Inv base c H w) {fr : AFr} {t el : TypeId} {len : Nat} (ht : P.underlying t = some (.array len el)) (hel : zh P el ≠ 0)
    {lx li : LOpd} {vx vi : Value} (rx : Rep c (opd fr lx) vx) (ri : Rep c (opd fr li) vi) {x : AVal} {H' : zb} (h : zn T (.iaadr len (zh P el) lx li) fr H = some (x, H')) :
    Done P base (Instr.indexAt t vx vi) c w x H' := by
  obtain ⟨d, hd⟩ := qv hel
  simp only [zn] at h
  cases hi : qZ (opd fr li) with
  | none => rw [hi] at h; cases h
  | some i =>
    rw [hi] at h
    obtain ⟨ki, rfl⟩ := qU ri hi
    have run : ∀ (a : Addr), 0 ≤ i → i < len → (Instr.indexAt t (.pointer (some a)) (.int ki i)).run P w = .ok (.pointer (some (a.add (i.toNat * zh P el)))) w := fun a h0 h1 => by
      simp [Instr.indexAt, asIntOf, run_underlying ht, Instr.sureAddr, h0, h1, qy hd]
    simp only at h
    split at h
    · rename_i k ver j o hx
      rw [hx] at rx
      cases hk : H[k]? with
      | none => rw [hk] at h; cases h
      | some e =>
        rw [hk] at h
        simp only at h
        split at h
        case isFalse => cases h
        rename_i hc
        obtain ⟨h0, h1, hver⟩ := hc
        cases h
        cases rx with
        | optr _ _ _ _ l v hl hv hh ho =>
          obtain ⟨hmp, g, cap, hp, rfl⟩ := hh (by rw [(hI.ent k e l hk hl).ver]; exact hver.symm)
          refine .still hI (run _ h0 h1) ?_
          rw [jg]
          exact .optr _ _ _ _ l _ hl hv (fun _ => ⟨hmp, g, cap, hp, by rw [Nat.add_assoc]⟩) ⟨_, rfl⟩
    · rename_i cells hx
      rw [hx] at rx
      split at h
      case isFalse => cases h
      rename_i hc
      obtain ⟨h0, h1, h2⟩ := hc
      cases h
      cases rx with
      | p _ _ hp =>
        cases hp with
        | cptr _ blk off vals hp hr hk =>
          refine .still hI (run _ h0 h1) ?_
          rw [jg]
          exact .p _ _ (.cptr _ blk _ (fun j => vals (i.toNat * zh P el + j)) (fun j hj => by rw [Nat.add_assoc]; exact hp _ (by simp at hj; omega)) (fun j z hz => hr _ z (by simpa using hz)) (fun z hz => hk z (List.mem_of_mem_drop hz)))
    · cases h
theorem ext_ok {T : Tab} {c : Ctx} {H : zb} {w : World} (hI : Inv base c H w) {fr : AFr} {lx : LOpd} {vx : Value} {i : Nat} (rx : Rep c (opd fr lx) vx) {x : AVal} {H' : zb} (h : zn T (.ext lx i) fr H = some (x, H')) :
    Done P base (Instr.extract vx i) c w x H' := by
  simp only [zn] at h
  split at h
  · rename_i l hx
    rw [hx] at rx
    cases hl : l[i]? with
    | none => rw [hl] at h; cases h
    | some y =>
      rw [hl] at h; cases h
      cases rx with
      | p _ _ hp =>
        cases hp with
        | tup _ vs hlen hr =>
          have hi : i < vs.length := by rw [hlen]; exact (List.getElem?_eq_some_iff.1 hl).1
          exact .still hI (v := vs[i]) (by simp [Instr.extract, hi]) (.p _ _ (hr i y _ hl (by simp [hi])))
  · rename_i l hx
    rw [hx] at rx
    cases hl : l[i]? with
    | none => rw [hl] at h; cases h
    | some y =>
      rw [hl] at h; cases h
      cases rx with
      | tup _ vs hlen hr =>
        have hi : i < vs.length := by rw [hlen]; exact (List.getElem?_eq_some_iff.1 hl).1
        exact .still hI (v := vs[i]) (by simp [Instr.extract, hi]) (hr i _ _ hl (by simp [hi]))
  · cases h
theorem lenOf_ok {c : Ctx} {H : zb} {w : World} (hI : Inv base c H w) {x : AVal} {v : Value} {n : Nat} (r : Rep c x v) (h : uE H x = some n) : ∃ a m, v = .slice a n m := by
  cases x with
  | p y =>
    cases y <;> simp [uE] at h
    subst h
    cases r with
    | p _ _ hp => obtain ⟨a, m, rfl, _⟩ := hp.lst_slice; exact ⟨a, m, rfl⟩
  | tight es => simp [uE] at h; subst h; cases r with | tight _ a n hn _ _ => subst hn; exact ⟨a, _, rfl⟩
  | own k off len ver =>
    simp only [uE] at h
    cases hk : H[k]? with
    | none => rw [hk] at h; cases h
    | some e =>
      rw [hk] at h
      simp only at h
      split at h
      case isFalse => cases h
      rename_i hver
      cases h
      obtain ⟨l, _, _, hv⟩ := vU hI r hk hver
      obtain ⟨a, cp, rfl, _⟩ := hv.slice
      exact ⟨a, cp, rfl⟩
  | _ => simp [uE] at h
theorem len_ok {T : Tab} {c : Ctx} {H : zb} {w : World} (hI : Inv base c H w) {fr : AFr} {t e : TypeId} (ht : P.underlying t = some (.slice e)) {lx : LOpd} {vx : Value} (rx : Rep c (opd fr lx) vx) {ty : TypeId} {ts : Array TypeId} (hts : ts[0]? = some t)
    {x : AVal} {H' : zb} (h : zn T (.len lx) fr H = some (x, H')) : Done P base (Builtin.len_ ts ty #[vx]) c w x H' := by
  simp only [zn] at h
  cases hl : uE H (opd fr lx) with
  | none => rw [hl] at h; cases h
  | some n =>
    rw [hl] at h; cases h
    obtain ⟨a, m, rfl⟩ := lenOf_ok hI rx hl
    exact .still hI (v := goInt n) (by simp [Builtin.len_, hts, run_underlying ht]) (.p _ _ (.int _ _))
theorem lenS_ok {T : Tab} {c : Ctx} {H : zb} {w : World} (hI : Inv base c H w) {fr : AFr} {t : TypeId} (ht : P.underlying t = some .string) {lx : LOpd} {vx : Value} (rx : Rep c (opd fr lx) vx) {ty : TypeId} {ts : Array TypeId} (hts : ts[0]? = some t)
    {x : AVal} {H' : zb} (h : zn T (.lenS lx) fr H = some (x, H')) : Done P base (Builtin.len_ ts ty #[vx]) c w x H' := by
  simp only [zn] at h
  split at h
  case h_2 => cases h
  rename_i s hx
  cases h
  rw [hx] at rx
  cases rx with
  | p _ _ hp =>
    cases hp with
    | str _ hs =>
      refine .still hI (v := goInt s.length) ?_ (.p _ _ (.int _ _))
      have : (⟨s.toArray⟩ : ByteArray).size = s.length := by simp [ByteArray.size]
      rw [← this]
      simp [Builtin.len_, hts, run_underlying ht]
theorem binI_run (op : BinOp) (k : IntKind) (a b : Int) (t : TypeId) (p : PVal) (h : binI op k a b = some p) (w : World) : ∃ v, (binOp op t (.int k a) (.int k b)).run P w = .ok v w ∧ ∀ pr, PRep pr p v := by
  have bits : ∀ op, (op = .and ∨ op = .or ∨ op = .xor ∨ op = .andNot) → binOp op t (.int k a) (.int k b) = Op.intBits op k a b := by
    intro op h
    rcases h with rfl | rfl | rfl | rfl <;> simp only [binOp, ne_eq, not_true, if_false]
  cases op <;> simp only [binI] at h <;> try cases h
  all_goals first
    | exact ⟨_, by rw [bits _ (by simp)]; rfl, fun pr => .int _ _⟩
    | exact ⟨_, by simp [binOp, Op.intArith], fun pr => .int _ _⟩
    | exact ⟨_, by simp [binOp, Op.intCmp], fun pr => .bool _⟩
    | (split at h <;> cases h; rename_i h0; exact ⟨_, by simp [binOp, Op.intDiv, h0], fun pr => .int _ _⟩)
theorem lF (op : BinOp) (k k' : IntKind) (a b : Int) (t : TypeId) (p : PVal) (h : qw op k a b = some p) (w : World) : ∃ v, (binOp op t (.int k a) (.int k' b)).run P w = .ok v w ∧ ∀ pr, PRep pr p v := by
  unfold qw at h
  split at h
  · cases h
  rename_i h0
  have run : ∀ op, (op = .shl ∨ op = .shr) → binOp op t (.int k a) (.int k' b) = Op.shift op k a k' b := by
    intro op h
    rcases h with rfl | rfl <;> rfl
  cases op <;> simp only at h <;> cases h
  all_goals exact ⟨_, by rw [run _ (by simp)]; unfold Op.shift; rw [if_neg h0]; rfl, fun pr => .int _ _⟩
theorem binS_run (op : BinOp) (a b : List UInt8) (t : TypeId) (p : PVal) (h : dV op a b = some p) (w : World) : ∃ v, (binOp op t (.string ⟨a.toArray⟩) (.string ⟨b.toArray⟩)).run P w = .ok v w ∧ ∀ pr, PRep pr p v := by
  cases op <;> simp only [dV] at h <;> try cases h
  all_goals first
    | exact ⟨_, by simp [binOp, Op.stringOp], fun pr => .bool _⟩
    | (split at h <;> cases h
       rename_i hl
       have hs : ∀ l : List UInt8, (⟨l.toArray⟩ : ByteArray).size = l.length := fun l => by simp [ByteArray.size]
       have happ : (⟨a.toArray⟩ : ByteArray) ++ ⟨b.toArray⟩ = ⟨(a ++ b).toArray⟩ := by
         apply ByteArray.ext
         simp
       refine ⟨.string ((⟨a.toArray⟩ : ByteArray) ++ ⟨b.toArray⟩), ?_, fun pr => by rw [happ]; exact .str _ (by simpa using hl)⟩
       have hn : ¬ (((a.length + b.length : Nat) : Int) > IntKind.i64.max) := by unfold maxLen at hl; simp; omega
       unfold binOp Op.stringOp
       simp only [hs]
       rw [if_neg hn]
       rfl)
theorem binF_run (op : BinOp) (k : FloatKind) (a b : Nat) (t : TypeId) (p : PVal) (h : binF op k a b = some p) (w : World) : ∃ v, (binOp op t (.float k a) (.float k b)).run P w = .ok v w ∧ ∀ pr, PRep pr p v := by
  have sp : ∀ op, binOp op t (.float k a) (.float k b) = match op with | .add | .sub | .mul | .quo => Op.floatArith op k a b | _ => Op.floatCmp op k a b := by
    intro op
    cases op <;> simp only [binOp, ne_eq, not_true, if_false]
  cases op <;> simp only [binF] at h <;> try cases h
  all_goals first
    | exact ⟨_, by rw [sp]; rfl, fun pr => .bool _⟩
    | (obtain ⟨r, hr, rfl⟩ := Option.map_eq_some_iff.1 h
       exact ⟨.float k r, by rw [sp]; simp [Op.floatArith, hr], fun pr => .flt _ _⟩)
theorem binC_run (op : BinOp) (k : FloatKind) (a b c d : Nat) (t : TypeId) (p : PVal) (h : binC op k a b c d = some p) (w : World) : ∃ v, (binOp op t (.complex k a b) (.complex k c d)).run P w = .ok v w ∧ ∀ pr, PRep pr p v := by
  cases op <;> simp only [binC] at h <;> cases h
  all_goals
    refine ⟨_, ?_, fun pr => .bool _⟩
    simp only [binOp, ne_eq, not_true, if_false, Op.complexOp, Op.Complex.cmp, Op.floatCmp, Sem.run_bind, Sem.run_pure, Result.andThen_ok]
    rfl
theorem vm {op : BinOp} {t : TypeId} {x y : Operand} {a b : Value} (ha : ∀ cs, a ≠ .agg cs) (hn : a ≠ .nilIface) (w : World) : (eqGuard op t x y a b).run P w = .ok () w := by
  cases a with
  | agg cs => exact absurd rfl (ha cs)
  | nilIface => exact absurd rfl hn
  | _ => cases op <;> simp [eqGuard]
end Go.Abs

namespace Go.Abs
variable {P : Program} {base : Prot}
structure Elems (c : Ctx) (w : World) (ys : List AVal) (size : Nat) (a : Option Addr) (vs : List Value) : Prop where
 len : vs.length = ys.length * size
 addr : ys ≠ [] → ∃ blk off, a = some ⟨blk, off, none⟩ ∧ ∀ (j : Nat) v, vs[j]? = some v → w.cell? ⟨blk, off + j, none⟩ = some v
 rep : ∀ (i : Nat) y (j : Nat) z, ys[i]? = some y → y.cells[j]? = some z → ∃ v, vs[i * size + j]? = some v ∧ Rep c z v
 one : ∀ v ∈ vs, v.oneCell' = true
theorem gp {H : zb} {x : AVal} {ys : List AVal} (h : jO H x = some ys) : jX H x = some ys ∧ ∀ s, x ≠ .p (.str s) := by
 unfold jO at h
 split at h
 ·cases h
 ·rename_i hn; exact ⟨h, fun s hs => hn s hs⟩
theorem bc {i n size j : Nat} (hi : i < n) (hj : j < size) : i * size + j < n * size := by
 have h1 : (i + 1) * size ≤ n * size := Nat.mul_le_mul_right _ (by omega)
 rw [Nat.add_mul, Nat.one_mul] at h1
 omega
theorem Elems.mk' {c : Ctx} {w : World} {ys : List AVal} {size : Nat} {a : Option Addr} (blk off : Nat) (ha : ys ≠ [] → a = some ⟨blk, off, none⟩) (hs : ∀ y ∈ ys, y.cells.length = size ∧ ∀ z ∈ y.cells, z.isCell = true)
  (h : ∀ (i : Nat) y (j : Nat) z, ys[i]? = some y → y.cells[j]? = some z → ∃ v, w.cell? ⟨blk, off + i * size + j, none⟩ = some v ∧ Rep c z v) : ∃ vs, Elems c w ys size a vs := by
 let vs := (List.range (ys.length * size)).map fun o => (w.cell? ⟨blk, off + o, none⟩).getD undef
 have hget : ∀ (i : Nat) y (j : Nat) z, ys[i]? = some y → y.cells[j]? = some z → ∃ v, w.cell? ⟨blk, off + (i * size + j), none⟩ = some v ∧ vs[i * size + j]? = some v ∧ Rep c z v := by
  intro i y j z hy hz
  obtain ⟨v, h1, h2⟩ := h i y j z hy hz
  have hj : j < size := by rw [← (hs y (List.mem_of_getElem? hy)).1]; exact (List.getElem?_eq_some_iff.1 hz).1
  have hlt := bc (List.getElem?_eq_some_iff.1 hy).1 hj
  refine ⟨v, by rw [← Nat.add_assoc]; exact h1, ?_, h2⟩
  simp only [vs, List.getElem?_map, List.getElem?_range hlt, Option.map_some]
  rw [← Nat.add_assoc, h1, Option.getD_some]
 have hall : ∀ o, o < ys.length * size → ∃ v z, w.cell? ⟨blk, off + o, none⟩ = some v ∧ vs[o]? = some v ∧ Rep c z v ∧ z.isCell = true := by
  intro o ho
  have hpos : 0 < size := by
   rcases Nat.eq_zero_or_pos size with h | h
   ·rw [h] at ho; omega
   ·exact h
  have hi : o / size < ys.length := Nat.div_lt_of_lt_mul (by rw [Nat.mul_comm]; exact ho)
  have hsy := hs ys[o / size] (List.getElem_mem hi)
  have hj : o % size < ys[o / size].cells.length := by rw [hsy.1]; exact Nat.mod_lt _ hpos
  obtain ⟨v, h1, h2, h3⟩ := hget (o / size) ys[o / size] (o % size) (ys[o / size].cells[o % size]) (by simp) (by simp)
  have e : o / size * size + o % size = o := by rw [Nat.mul_comm]; exact Nat.div_add_mod o size
  rw [e] at h1 h2
  exact ⟨v, _, h1, h2, h3, hsy.2 _ (List.getElem_mem hj)⟩
 refine ⟨vs, by simp [vs], fun hne => ⟨blk, off, ha hne, fun j v hv => ?_⟩, fun i y j z hy hz => ?_, fun v hv => ?_⟩
 ·have hj : j < ys.length * size := by have := (List.getElem?_eq_some_iff.1 hv).1; simpa [vs] using this
  obtain ⟨v', z, h1, h2, _⟩ := hall j hj
  rw [hv] at h2; cases h2
  exact h1
 ·obtain ⟨v, _, h2, h3⟩ := hget i y j z hy hz
  exact ⟨v, h2, h3⟩
 ·obtain ⟨j, hj, rfl⟩ := List.getElem_of_mem hv
  have hj' : j < ys.length * size := by simpa [vs] using hj
  obtain ⟨v', z, _, h2, h3, h4⟩ := hall j hj'
  rw [List.getElem?_eq_getElem hj] at h2; cases h2
  exact (h3.one h4).1
theorem hU {c : Ctx} {H : zb} {w : World} (hI : Inv base c H w) {x : AVal} {v : Value} (r : Rep c x v) {ys : List AVal} (h : jX H x = some ys) (hx : ∀ s, x ≠ .p (.str s)) {size : Nat}
  (hs : ∀ y ∈ ys, y.cells.length = size ∧ ∀ z ∈ y.cells, z.isCell = true) : ∃ a cp vs, v = .slice a ys.length cp ∧ ys.length ≤ cp ∧ cp ≤ maxLen ∧ Elems c w ys size a vs := by
 have imm : ∀ (es : List PVal) (v : Value), PRep c.prot (.lst es) v → ys = es.map .p → ∃ a cp vs, v = .slice a ys.length cp ∧ ys.length ≤ cp ∧ cp ≤ maxLen ∧ Elems c w ys size a vs := by
  intro es v hp hy
  subst hy
  cases hp with
  | lst _ a len cap size' blk off vals hl hc hm ha hs' hpp hr hk =>
   obtain ⟨vs, hvs⟩ := Elems.mk' (c := c) (w := w) (ys := es.map .p) (size := size) (a := a) blk off (fun hne => ha (by intro h; subst h; simp at hne)) hs (fun i y j z hy hz => by
    rw [List.getElem?_map] at hy
    obtain ⟨e, he, rfl⟩ := Option.map_eq_some_iff.1 hy
    have hse : size = size' := by
     have h1 := (hs (.p e) (List.mem_map.2 ⟨e, List.mem_of_getElem? he, rfl⟩)).1
     have h2 := hs' e (List.mem_of_getElem? he)
     simp [AVal.cells] at h1
     omega
    subst hse
    simp only [AVal.cells, List.getElem?_map] at hz
    obtain ⟨u, hu, rfl⟩ := Option.map_eq_some_iff.1 hz
    have hj : j < size := by rw [← hs' e (List.mem_of_getElem? he)]; exact (List.getElem?_eq_some_iff.1 hu).1
    exact ⟨vals i j, hI.prot _ _ _ (hpp i j (List.getElem?_eq_some_iff.1 he).1 hj), .p _ _ (hr i e j u he hu)⟩)
   exact ⟨a, cap, vs, by simp [hl], by simp; omega, hm, hvs⟩
 cases x with
 | p y =>
  cases y <;> simp [jX] at h
  ·exact absurd rfl (hx _)
  ·cases r with | p _ _ hp => exact imm _ v hp h.symm
 | tight es =>
  simp [jX] at h
  cases r with | tight _ a n hn hp hz => exact imm _ _ hp h.symm
 | own k off len ver =>
  simp only [jX] at h
  cases hk : H[k]? with
  | none => rw [hk] at h; cases h
  | some e =>
   rw [hk] at h
   simp only at h
   split at h
   case isFalse => cases h
   rename_i hc
   obtain ⟨hver, hle⟩ := hc
   cases h
   obtain ⟨l, hl, he, hv⟩ := vU hI r hk hver
   obtain ⟨a, cp, rfl, p1, p2⟩ := hv.slice
   have hlen : ((e.elems.drop off).take len).length = len := by simp; omega
   rw [hlen]
   cases hp : l.place with
   | none =>
    have h0 := he.nowhere hp
    have h1 : (e.elems.drop off).take len = [] := by rw [h0]; simp
    obtain ⟨vs, hvs⟩ := Elems.mk' (c := c) (w := w) (ys := (e.elems.drop off).take len) (size := size) (a := a) 0 0 (fun hne => absurd h1 hne) hs (fun i y j z hy hz => by rw [h1] at hy; simp at hy)
    exact ⟨a, cp, vs, rfl, p1, p2, hvs⟩
   | some q =>
    obtain ⟨g, cap⟩ := q
    simp only [OwnVal, hp] at hv
    obtain ⟨hmp, a', cp', q1, q2, q3, q4, q5⟩ := hv
    cases q1
    obtain ⟨vs, hvs⟩ := Elems.mk' (c := c) (w := w) (ys := (e.elems.drop off).take len) (size := size) (a := a) g (off * size) (fun hne => by
     have hpos : 0 < len := by rw [← hlen]; exact List.length_pos_iff.2 hne
     obtain ⟨y, hy⟩ := List.exists_mem_of_ne_nil _ hne
     have h2 := (he.cells hmp y (List.mem_of_mem_drop (List.mem_of_mem_take hy))).1
     rw [(q5 (.inl hpos)).1, he.size, ← h2, (hs y hy).1]) hs (fun i y j z hy hz => by
     have hy' := hy
     rw [List.getElem?_take] at hy
     split at hy
     case isFalse => cases hy
     rw [List.getElem?_drop] at hy
     have h2 := (he.cells hmp y (List.mem_of_getElem? hy)).1
     have h3 := (hs y (List.mem_of_getElem? hy')).1
     obtain ⟨v, r1, r2⟩ := hI.row hk hl hp hmp (off + i) j y z hy hz
     exact ⟨v, by rw [← h3, h2, ← Nat.add_mul]; exact r1, r2⟩)
    exact ⟨a, cp, vs, rfl, p1, p2, hvs⟩
 | _ => simp [jX] at h
end Go.Abs
namespace Go.Abs
variable {P : Program} {base : Prot}
theorem yw (blk off j : Nat) : (⟨blk, off, none⟩ : Addr).add j = ⟨blk, off + j, none⟩ := Addr.add_lit blk off j
theorem pE {t ty e : TypeId} {d : TypeDesc} (ht : P.underlying t = some (.slice e)) (hd : P.underlying e = some d) (w : World) (b a : Option Addr) (n cap m : Nat) (hn : n ≤ cap) :
  (Builtin.append_ #[t, t] ty #[.slice b n cap, .slice a 0 m]).run P w = .ok (.slice b n cap) w := by
 have f : ∀ x : Option Addr, (Builtin.firstCells (zh P e) 0 (.slice x 0 m)).run P w = .ok #[] w := fun x => by
  cases x <;> simp [Builtin.firstCells, loadCells, loadCellsFrom]
 cases b with
 | none => simp [Builtin.append_, run_underlying ht, qy hd, Builtin.lenOf, hn, f]
 | some b => simp [Builtin.append_, run_underlying ht, qy hd, Builtin.lenOf, hn, f, storeCells]
theorem mM {t ty e e' : TypeId} {i : TypeInfo} (ht : P.underlying t = some (.slice e)) (hi : P.info? e = some i) (w : World)
  (g sLen sCap : Nat) (cur : Array Value) (hg : w.heap[g]? = some (.cells cur e' (0, 0)))
  (a : Addr) (m c : Nat) (news : List Value) (hl : news.length = m * i.size) (hnews : ∀ (j : Nat) u, news[j]? = some u → w.cell? (a.add j) = some u) (h1 : ∀ u ∈ news, u.oneCell' = true)
  (hroom : sLen + m ≤ sCap) (hfit : sLen * i.size + news.length ≤ cur.size) :
  (Builtin.append_ #[t, t] ty #[.slice (some ⟨g, 0, none⟩) sLen sCap, .slice (some a) m c]).run P w =
   .ok (.slice (some ⟨g, 0, none⟩) (sLen + m) sCap) (w.setRow g (cur.toList.take (sLen * i.size) ++ news ++ cur.toList.drop (sLen * i.size + news.length)).toArray) := by
 have hf := run_firstCells_some (P := P) w i.size m a m c news hl hnews
 have hst := run_storeCells_at P g (sLen * i.size) e' news 0 cur w hg (by simpa using hfit) h1
 simp only [Nat.add_zero] at hst
 simp [Builtin.append_, run_underlying ht, sizeOf, typeInfo, hi, Builtin.lenOf, hroom, hf, Addr.add_lit, hst]
theorem mN {t ty e : TypeId} {i : TypeInfo} {z : Value} (ht : P.underlying t = some (.slice e)) (hi : P.info? e = some i) (hz : i.zero = some z) (w : World) (b : Option Addr) (sLen sCap : Nat) (olds : List Value)
  (hlo : olds.length = sLen * i.size) (hb : b = none → sLen = 0 ∧ sCap = 0) (holds : ∀ x, b = some x → ∀ (j : Nat) v, olds[j]? = some v → w.cell? (x.add j) = some v) (a : Addr) (n c : Nat) (news : List Value) (hl : news.length = n * i.size)
  (hnews : ∀ (j : Nat) v, news[j]? = some v → w.cell? (a.add j) = some v) (hn : 0 < n) (hg : sCap < sLen + n) (hm : sLen + n ≤ maxLen) (hbytes : (sLen + n) * i.bytes ≤ 140737488355328) :
  (Builtin.append_ #[t, t] ty #[.slice b sLen sCap, .slice (some a) n c]).run P w =
   .ok (.slice (some ⟨w.heap.size, 0, none⟩) (sLen + n) (grownCap w (sLen + n) sCap e))
    (w.drew.alloc (.cells (olds.toArray ++ news.toArray ++ Builtin.zeroCells z.cells (grownCap w (sLen + n) sCap e - (sLen + n))) e)) := by
 have h63 : ((sLen + n : Nat) : Int) ≤ 9223372036854775807 := by unfold maxLen at hm; omega
 cases b with
 | none =>
  obtain ⟨rfl, rfl⟩ := hb rfl
  have h0 : olds = [] := List.eq_nil_of_length_eq_zero (by simpa using hlo)
  subst h0
  have := run_append_nil (P := P) w t ty e i z ht hi hz a n c news hl hnews hn (by omega) (by simp only [Nat.zero_add] at hbytes; omega)
  simp only [Nat.zero_add, Array.empty_append] at this ⊢
  simpa using this
 | some b => exact run_append_grow (P := P) w t ty e i z ht hi hz b sLen sCap olds hlo (holds b rfl) a n c news hl hnews hg h63 (growslice_fits hg hbytes)
structure AppArg (P : Program) (c : Ctx) (w : World) (e : TypeId) (ts : Array TypeId) (ty : TypeId) (vy : Value) (ys : List AVal) (news : List Value) : Prop where
 len : news.length = ys.length * zh P e
 rep : ∀ (i : Nat) y (j : Nat) z, ys[i]? = some y → y.cells[j]? = some z → ∃ v, news[i * zh P e + j]? = some v ∧ Rep c z v
 one : ∀ v ∈ news, v.oneCell' = true
 none : ys = [] → ∀ (b : Option Addr) n cap, n ≤ cap → (Builtin.append_ ts ty #[.slice b n cap, vy]).run P w = .ok (.slice b n cap) w
 room : ys ≠ [] → ∀ (i : TypeInfo) g sLen sCap (cur : Array Value) e', P.info? e = some i → zh P e = i.size → w.heap[g]? = some (.cells cur e' (0, 0)) → sLen + ys.length ≤ sCap → sLen * i.size + news.length ≤ cur.size →
  (Builtin.append_ ts ty #[.slice (some ⟨g, 0, Option.none⟩) sLen sCap, vy]).run P w = .ok (.slice (some ⟨g, 0, Option.none⟩) (sLen + ys.length) sCap) (w.setRow g (cur.toList.take (sLen * i.size) ++ news ++ cur.toList.drop (sLen * i.size + news.length)).toArray)
 moves : ys ≠ [] → ∀ (i : TypeInfo) z (b : Option Addr) sLen sCap (olds : List Value), P.info? e = some i → zh P e = i.size → i.zero = some z → olds.length = sLen * i.size → (b = Option.none → sLen = 0 ∧ sCap = 0) → (∀ x, b = some x → ∀ (j : Nat) v, olds[j]? = some v → w.cell? (x.add j) = some v) →
  sCap < sLen + ys.length → sLen + ys.length ≤ maxLen → (sLen + ys.length) * i.bytes ≤ 140737488355328 →
  (Builtin.append_ ts ty #[.slice b sLen sCap, vy]).run P w =
   .ok (.slice (some ⟨w.heap.size, 0, Option.none⟩) (sLen + ys.length) (grownCap w (sLen + ys.length) sCap e))
    (w.drew.alloc (.cells (olds.toArray ++ news.toArray ++ Builtin.zeroCells z.cells (grownCap w (sLen + ys.length) sCap e - (sLen + ys.length))) e))
theorem iT {c : Ctx} {H : zb} {w : World} (hI : Inv base c H w) {e : TypeId} (hzz : (qb P e).cells.length = zh P e) (hzk : (qb P e).cells.all AVal.isCell = true) {ax : AVal} {vx vy : Value}
  (rx : Rep c ax vx) {ts : Array TypeId} {ty : TypeId} {ys : List AVal} {news : List Value} (hel : AppArg P c w e ts ty vy ys news) {x : AVal} {H' : zb} (h : qC (zh P e) (ku P e) e ax ys H = some (x, H')) :
  Done P base (Builtin.append_ ts ty #[vx, vy]) c w x H' := by
  unfold qC at h
  split at h
  case isFalse => cases h
  rename_i hc
  obtain ⟨hys, hpos⟩ := hc
  have hys' : ∀ y ∈ ys, y.cells.length = zh P e ∧ ∀ z ∈ y.cells, z.isCell = true := fun y hy => by
   have := List.all_eq_true.1 hys y hy
   simp only [Bool.and_eq_true, beq_iff_eq] at this
   exact ⟨this.1, zS this.2⟩
  obtain ⟨i, z, hi, hz, hze⟩ := yc hzk
  obtain ⟨d, hd⟩ := qv (P := P) (t := e) (by omega)
  have hsz : zh P e = i.size := by simp [zh, hd, hi]
  have hbt : ku P e = i.bytes := by simp [ku, hi]
  rw [hze] at hzz hzk
  have rz := (vq c z).cells (zS hzk)
  have hzs : z.cells.size = zh P e := by have := rz.1.1; simp at this; omega
  have ysne : ∀ n : Nat, ys.length = n + 1 → ys ≠ [] := fun n h h0 => by subst h0; simp at h
  split at h
  · -- an own array
   rename_i k off len ver
   cases hk : H[k]? with
   | none => rw [hk] at h; cases h
   | some en =>
    rw [hk] at h
    simp only at h
    split at h
    case isFalse =>
     split at h
     case isFalse =>
      split at h
      case isFalse => cases h
      rename_i hc
      obtain ⟨hver, hy0⟩ := hc
      have hy0 : ys = [] := List.eq_nil_of_length_eq_zero hy0
      cases h
      obtain ⟨l, hl, he, hv⟩ := vU hI rx hk hver
      obtain ⟨b, cq, rfl, q1, q2⟩ := hv.slice
      exact .still hI (hel.none hy0 b _ _ q1) rx
     rename_i hc
     obtain ⟨hver, hes, rfl, hfz, hle, hne⟩ := hc
     have hne : ys ≠ [] := List.length_pos_iff.1 hne
     cases h
     obtain ⟨l, hl, he, hv⟩ := vU hI rx hk hver
     unfold OwnVal at hv
     cases hp : l.place with
     | none =>
      have h0 := he.nowhere hp
      rw [h0] at hle
      simp at hle
      exact absurd hle.2 hne
     | some q =>
      obtain ⟨g, cap⟩ := q
      simp only [hp] at hv
      obtain ⟨hmp, b, cq, rfl, q2, q3, q4, q5⟩ := hv
      obtain ⟨e1, e2⟩ := q5 (.inr trivial)
      simp only [Nat.zero_mul, Nat.sub_zero] at e1 e2
      subst e1
      have e3 := e2.symm
      subst e3
      obtain ⟨cur, ty', a1, a2, a3, a4, a5, a6⟩ := he.there g cap hp hmp
      have hroom : len + ys.length ≤ cap := by omega
      have hnl : news.length = ys.length * i.size := by rw [hel.len, hsz]
      have hfit : len * i.size + news.length ≤ cur.size := by rw [hnl, a2, hes, ← hsz, ← Nat.add_mul]; exact Nat.mul_le_mul_right _ hroom
      have hrun := hel.room hne i g len cap cur ty' hi hsz a1 hroom hfit
      have hbl : len * i.size + news.length ≤ cur.toList.length := by simpa using hfit
      have esz : en.size = i.size := by rw [hes, hsz]
      have hlen' : (en.elems.take len ++ ys ++ en.elems.drop (len + ys.length)).length = en.elems.length := by simp; omega
      obtain ⟨c', hs, hI'⟩ := hI.setCells hk hl hp hfz a1 a2 a3 (cur.toList.take (len * i.size) ++ news ++ cur.toList.drop (len * i.size + news.length)).toArray
       (by rw [List.size_toArray, ve _ _ _ hbl]; rfl) (en.elems.take len ++ ys ++ en.elems.drop (len + ys.length)) hlen' (fun y hy => by
        rcases List.mem_append.1 hy with h1 | h1
        ·rcases List.mem_append.1 h1 with h2 | h2
         ·exact he.cells hmp y (List.mem_of_mem_take h2)
         ·rw [hes]; exact hys' y h2
        ·exact he.cells hmp y (List.mem_of_mem_drop h1)) (fun i' y j u hy hu => by
        have hsp := qu en.elems ys len hle i'
        rw [hsp] at hy
        rw [List.getElem?_toArray, qu _ _ _ hbl, hnl, esz]
        by_cases hin : len ≤ i' ∧ i' < len + ys.length
        ·rw [if_pos hin] at hy
         obtain ⟨v, r1, r2⟩ := hel.rep (i' - len) y j u hy hu
         rw [hsz] at r1
         have hj : j < i.size := by rw [← hsz, ← (hys' y (List.mem_of_getElem? hy)).1]; exact (List.getElem?_eq_some_iff.1 hu).1
         have hlt : (i' - len) * i.size + j < ys.length * i.size := bc (by omega) hj
         have hidx : i' * i.size + j = len * i.size + ((i' - len) * i.size + j) := by
          have : i' = len + (i' - len) := by omega
          conv => lhs; rw [this, Nat.add_mul]
          omega
         refine ⟨v, ?_, r2⟩
         rw [hidx, if_pos (by omega), Nat.add_sub_cancel_left]
         exact r1
        ·rw [if_neg hin] at hy
         obtain ⟨v, r1, r2⟩ := a5 i' y j u hy hu
         have hj : j < i.size := by rw [← esz, ← (he.cells hmp y (List.mem_of_getElem? hy)).1]; exact (List.getElem?_eq_some_iff.1 hu).1
         refine ⟨v, ?_, r2⟩
         rw [if_neg (by
          intro hcon
          by_cases h1 : i' < len
          ·have := bc h1 hj; omega
          ·have h2 : (len + ys.length) * i.size ≤ i' * i.size := Nat.mul_le_mul_right _ (by omega)
           rw [Nat.add_mul] at h2
           omega)]
         rw [esz] at r1
         simpa using r1)
      refine ⟨_, _, c', hrun, hs, hI', ?_⟩
      have hl' := hs.locs k l hl
      obtain ⟨l', hl1, hl2, hl3⟩ := hl'
      refine .own _ _ _ _ l' _ hl1 (by rw [he.ver, hver] at hl2; exact hl2) (fun hv' => ?_) ⟨_, _, _, rfl⟩
      have hle2 := hl3 (by rw [← hv', he.ver, hver])
      subst hle2
      unfold OwnVal
      simp only [hp]
      exact ⟨hmp, _, _, rfl, hroom, a3, by omega, fun _ => by simp⟩
    rename_i hc
    obtain ⟨hver, hes, hty, rfl, rfl, hb, hmx⟩ := hc
    cases h
    obtain ⟨l, hl, he, hv⟩ := vU hI rx hk hver
    have hlver : l.ver = ver := by rw [he.ver, hver]
    have cellsAll : ∀ y ∈ en.elems ++ ys, y.cells.length = en.size ∧ ∀ z ∈ y.cells, z.isCell = true := fun y hy => by
     rcases List.mem_append.1 hy with h | h
     ·exact he.cells hv.1 y h
     ·rw [hes]; exact hys' y h
    by_cases hne : ys = []
    ·subst hne
     obtain ⟨b, cq, rfl, q1, q2⟩ := hv.slice
     have hrun := hel.none rfl b en.elems.length cq q1
     obtain ⟨hs, hI'⟩ := hI.replace hl (w' := w) ⟨zh P e, ver + 1, en.froz, en.elems ++ [], e⟩ ⟨ver + 1, l.size, l.place, false⟩ rfl rfl rfl (Nat.le_refl _) (fun _ _ _ => rfl) (by simp [hlver]) (fun h => by simp [hlver] at h)
      (fun g cap h => .inl ⟨cap, h⟩) hI.prot ⟨rfl, by rw [he.size, hes], nP hpos, fun _ => by rw [← hes]; simpa using he.cells hv.1, fun h => by simpa using he.nowhere h, fun g cap cur2 ty2 fr2 h hh2 => by rw [← hty]; exact he.typed g cap cur2 ty2 fr2 h hh2, (fun _ _ _ hm => by cases hm), fun g cap h _ => by
       obtain ⟨cur, ty', a1, a2, a3, a4, a5, a6⟩ := he.there g cap h hv.1
       rw [← hes]
       exact ⟨cur, ty', a1, a2, a3, by simpa using a4, by simpa using a5, by simpa using a6⟩⟩
     refine ⟨_, _, _, hrun, hs, hI', ?_⟩
     refine .own _ _ _ _ ⟨ver + 1, l.size, l.place, false⟩ _ (by simp [(List.getElem?_eq_some_iff.1 hl).1]) (Nat.le_refl _) (fun _ => ?_) ⟨_, _, _, rfl⟩
     simpa [OwnVal] using hv.2
    ·have hn : 0 < ys.length := List.length_pos_iff.2 hne
     have hnl : news.length = ys.length * i.size := by rw [hel.len, hsz]
     -- where the array lies
     have moves : ∀ (b : Option Addr) (cq : Nat) (olds : List Value), (b = none → en.elems.length = 0 ∧ cq = 0) → olds.length = en.elems.length * i.size → (∀ x, b = some x → ∀ (j : Nat) v, olds[j]? = some v → w.cell? (x.add j) = some v) →
       (∀ (i' : Nat) y (j : Nat) u, en.elems[i']? = some y → y.cells[j]? = some u → ∃ v, olds[i' * i.size + j]? = some v ∧ Rep c u v) → cq < en.elems.length + ys.length →
       Done P base (Builtin.append_ ts ty #[.slice b en.elems.length cq, vy]) c w (.own k 0 (en.elems.length + ys.length) (ver + 1)) (H.set k ⟨zh P e, ver + 1, en.froz, en.elems ++ ys, e⟩) := by
      intro b cq olds hb0 hol hoc hor hgr
      have hrun := hel.moves hne i z b en.elems.length cq olds hi hsz hz hol hb0 hoc hgr hmx (by rw [← hbt]; exact hb)
      generalize hcap : grownCap w (en.elems.length + ys.length) cq e = ncap at hrun
      have hge : en.elems.length + ys.length ≤ ncap := by rw [← hcap]; exact grownCap_ge w _ _ _
      have hncm : ncap ≤ maxLen := by rw [← hcap]; exact grownCap_le_maxLen w _ _ _ hmx
      have hgw := (Grew.drew w).alloc (.cells (olds.toArray ++ news.toArray ++ Builtin.zeroCells z.cells (ncap - (en.elems.length + ys.length))) e)
      have hheap : (w.drew.alloc (.cells (olds.toArray ++ news.toArray ++ Builtin.zeroCells z.cells (ncap - (en.elems.length + ys.length))) e)).heap[w.heap.size]? = some (.cells (olds.toArray ++ news.toArray ++ Builtin.zeroCells z.cells (ncap - (en.elems.length + ys.length))) e (0, 0)) := heap_alloc_new w.drew _
      obtain ⟨hs, hI'⟩ := hI.replace hl ⟨zh P e, ver + 1, en.froz, en.elems ++ ys, e⟩ ⟨ver + 1, l.size, some (w.heap.size, ncap), false⟩ hgw.os hgw.tape hgw.output hgw.size (fun b hb _ => hgw.blk b hb) (by simp [hlver]) (fun h => by simp [hlver] at h)
       (fun g cap h => by simp at h; exact .inr (by omega)) (fun b o v hv => by rw [cell_of_heap (hgw.blk b (hI.prot_lt hv))]; exact hI.prot b o v hv)
       ⟨rfl, by rw [he.size, hes], nP hpos, fun _ => by rw [← hes]; exact cellsAll, by simp, fun g cap cur2 ty2 fr2 h hh2 => by
        simp only [Option.some.injEq, Prod.mk.injEq] at h
        obtain ⟨rfl, rfl⟩ := h
        rw [hheap] at hh2
        cases hh2; rfl, (fun _ _ _ hm => by cases hm), fun g cap h _ => by
        simp only [Option.some.injEq, Prod.mk.injEq] at h
        obtain ⟨rfl, rfl⟩ := h
        refine ⟨_, e, hheap, ?_, hncm, by simpa using hge, fun i' y j u hy hu => ?_, fun o v hv => by have := hI.prot_lt hv; omega⟩
        ·simp only [Array.size_append, List.size_toArray, size_zeroCells, hol, hnl, hzs, ← hsz, ← Nat.add_mul]
         congr 1; omega
        ·dsimp only at hy ⊢
         rw [hsz]
         by_cases hi' : i' < en.elems.length
         ·rw [List.getElem?_append_left hi'] at hy
          obtain ⟨v, r1, r2⟩ := hor i' y j u hy hu
          refine ⟨v, ?_, r2⟩
          have hlt := (List.getElem?_eq_some_iff.1 r1).1
          rw [Array.getElem?_append_left (by simp; omega), Array.getElem?_append_left (by simpa using hlt)]
          simpa using r1
         ·rw [List.getElem?_append_right (by omega)] at hy
          obtain ⟨v, r1, r2⟩ := hel.rep (i' - en.elems.length) y j u hy hu
          refine ⟨v, ?_, r2⟩
          rw [hsz] at r1
          have hlt := (List.getElem?_eq_some_iff.1 r1).1
          have hidx : i' * i.size + j = olds.length + ((i' - en.elems.length) * i.size + j) := by
           rw [hol]
           have : i' = en.elems.length + (i' - en.elems.length) := by omega
           conv => lhs; rw [this, Nat.add_mul]
           omega
          rw [hidx, Array.getElem?_append_left (by simp; omega), Array.getElem?_append_right (by simp)]
          simp only [List.size_toArray, Nat.add_sub_cancel_left]
          simpa using r1⟩
      refine ⟨_, _, _, hrun, hs, hI', ?_⟩
      refine .own _ _ _ _ ⟨ver + 1, l.size, some (w.heap.size, ncap), false⟩ _ (by simp [(List.getElem?_eq_some_iff.1 hl).1]) (Nat.le_refl _) (fun _ => ?_) ⟨_, _, _, rfl⟩
      exact ⟨rfl, _, _, rfl, hge, hncm, by omega, fun _ => by simp⟩
     unfold OwnVal at hv
     cases hp : l.place with
     | none =>
      simp only [hp] at hv
      obtain ⟨_, b, rfl, _, h0, _⟩ := hv
      have h0' : en.elems = [] := he.nowhere hp
      rw [h0'] at moves ⊢
      exact moves b 0 [] (fun _ => ⟨rfl, rfl⟩) (by simp) (fun _ _ j v h => by simp at h) (fun i' y j u h => by simp at h) (by simpa using hn)
     | some q =>
      obtain ⟨g, cap⟩ := q
      simp only [hp] at hv
      obtain ⟨hmp, b, cq, rfl, q2, q3, q4, q5⟩ := hv
      obtain ⟨e1, e2⟩ := q5 (.inr trivial)
      simp only [Nat.zero_mul, Nat.sub_zero] at e1 e2
      subst e1
      have e3 := e2.symm
      subst e3
      obtain ⟨cur, ty', a1, a2, a3, a4, a5, a6⟩ := he.there g cap hp hmp
      by_cases hroom : en.elems.length + ys.length ≤ cap
      · -- in place
       have hfit : en.elems.length * i.size + news.length ≤ cur.size := by rw [hnl, a2, hes, ← hsz, ← Nat.add_mul]; exact Nat.mul_le_mul_right _ hroom
       have hrun := hel.room hne i g en.elems.length cap cur ty' hi hsz a1 hroom hfit
       have hbl : en.elems.length * i.size + news.length ≤ cur.toList.length := by simpa using hfit
       have hslen := ve cur.toList news (en.elems.length * i.size) hbl
       have hheap := setRow_heap w g cur (cur.toList.take (en.elems.length * i.size) ++ news ++ cur.toList.drop (en.elems.length * i.size + news.length)).toArray ty' (0, 0) a1
       have esz : en.size = i.size := by rw [hes, hsz]
       obtain ⟨hs, hI'⟩ := hI.replace hl (w' := w.setRow g (cur.toList.take (en.elems.length * i.size) ++ news ++ cur.toList.drop (en.elems.length * i.size + news.length)).toArray) ⟨zh P e, ver + 1, en.froz, en.elems ++ ys, e⟩ ⟨ver + 1, l.size, some (g, cap), false⟩ rfl rfl rfl
        (by rw [Below.of_setRow]; exact Nat.le_refl _) (fun b hb hn => setRow_other w g b _ (fun h => hn cap (by rw [hp, h]))) (by simp [hlver]) (fun h => by simp [hlver] at h)
        (fun g' cap' h => .inl ⟨cap, by simp at h; rw [hp, h.1]⟩) (fun b o v hv => by
         by_cases hbg : b = g
         ·subst hbg
          have hlim := (a6 o v hv).2
          rw [cell_setRow_same w b o cur _ ty' (0, 0) a1, List.getElem?_toArray, qu _ _ _ hbl, if_neg (by rw [esz] at hlim; omega)]
          have := hI.prot b o v hv
          rw [cell_of_row w b o cur ty' (0, 0) a1] at this
          simpa using this
         ·rw [cell_setRow_other w g _ _ hbg]; exact hI.prot b o v hv)
        ⟨rfl, by rw [he.size, hes], nP hpos, fun _ => by rw [← hes]; exact cellsAll, by simp, fun g' cap' cur2 ty2 fr2 h hh2 => by
         simp only [Option.some.injEq, Prod.mk.injEq] at h
         obtain ⟨rfl, rfl⟩ := h
         rw [hheap] at hh2
         cases hh2
         rw [← hty]
         exact he.typed g cap cur ty' (0, 0) hp a1, (fun _ _ _ hm => by cases hm), fun g' cap' h _ => by
         simp only [Option.some.injEq, Prod.mk.injEq] at h
         obtain ⟨rfl, rfl⟩ := h
         refine ⟨_, ty', hheap, ?_, a3, by simpa using hroom, fun i' y j u hy hu => ?_, fun o v hv => ?_⟩
         ·rw [List.size_toArray, hslen, ← hes]; simpa using a2
         ·dsimp only at hy ⊢
          rw [hsz]
          rw [List.getElem?_toArray, qu _ _ _ hbl]
          have hj : j < i.size := by rw [← esz, ← (cellsAll y (List.mem_of_getElem? hy)).1]; exact (List.getElem?_eq_some_iff.1 hu).1
          by_cases hi' : i' < en.elems.length
          ·rw [List.getElem?_append_left hi'] at hy
           obtain ⟨v, r1, r2⟩ := a5 i' y j u hy hu
           have := bc hi' hj
           refine ⟨v, ?_, r2⟩
           rw [if_neg (by omega), ← esz]
           simpa using r1
          ·rw [List.getElem?_append_right (by omega)] at hy
           obtain ⟨v, r1, r2⟩ := hel.rep (i' - en.elems.length) y j u hy hu
           refine ⟨v, ?_, r2⟩
           have hlt := (List.getElem?_eq_some_iff.1 r1).1
           rw [hsz] at r1 hlt
           have hidx : i' * i.size + j = en.elems.length * i.size + ((i' - en.elems.length) * i.size + j) := by
            have : i' = en.elems.length + (i' - en.elems.length) := by omega
            conv => lhs; rw [this, Nat.add_mul]
            omega
           rw [hidx, if_pos (by omega), Nat.add_sub_cancel_left]
           exact r1
         ·obtain ⟨h1, h2⟩ := a6 o v hv
          refine ⟨h1, ?_⟩
          simp only [List.length_append, Nat.add_mul]
          rw [← hes]; omega⟩
       refine ⟨_, _, _, hrun, hs, hI', ?_⟩
       refine .own _ _ _ _ ⟨ver + 1, l.size, some (g, cap), false⟩ _ (by simp [(List.getElem?_eq_some_iff.1 hl).1]) (Nat.le_refl _) (fun _ => ?_) ⟨_, _, _, rfl⟩
       exact ⟨rfl, _, _, rfl, hroom, a3, by omega, fun _ => by simp⟩
      · -- it moves
       have hne0 : en.elems.length * i.size ≤ cur.size := by rw [a2, hes, ← hsz]; exact Nat.mul_le_mul_right _ a4
       refine moves (some ⟨g, 0, none⟩) cap (cur.toList.take (en.elems.length * i.size)) (fun h => by cases h) (by simp; omega) (fun x hx j v hj => ?_) (fun i' y j u hy hu => ?_) (by omega)
       ·cases hx
        rw [yw, Nat.zero_add, cell_of_row w g j cur ty' (0, 0) a1]
        rw [List.getElem?_take] at hj
        split at hj
        ·simpa using hj
        ·cases hj
       ·obtain ⟨v, r1, r2⟩ := a5 i' y j u hy hu
        have hj : j < i.size := by rw [← hsz, ← hes, ← (he.cells hmp y (List.mem_of_getElem? hy)).1]; exact (List.getElem?_eq_some_iff.1 hu).1
        have := bc (List.getElem?_eq_some_iff.1 hy).1 hj
        refine ⟨v, ?_, r2⟩
        rw [List.getElem?_take, if_pos this]
        rw [hes, hsz] at r1
        simpa using r1
  · -- a slice without room
   rename_i es
   split at h
   case isFalse => cases h
   rename_i hc
   obtain ⟨hemp, hes, hb, hmx⟩ := hc
   cases h
   cases rx with
   | tight _ b n hn0 hp hz0 =>
    subst hn0
    have hesz : ∀ e' ∈ es, e'.cells.length = zh P e := fun e' he' => by simpa using List.all_eq_true.1 hes e' he'
    by_cases hne : ys = []
    ·subst hne
     have he0 : es = [] := by
      have : es.isEmpty = true := by simpa using hemp
      simpa using this
     subst he0
     have hrun := hel.none rfl b 0 0 (Nat.le_refl _)
     obtain ⟨hs, hI'⟩ := hI.allocNil (zh P e) e hpos
     refine ⟨_, _, _, hrun, hs, by simpa using hI', ?_⟩
     refine .own _ _ _ _ ⟨0, zh P e, none, false⟩ _ (by simp [hI.len]) (Nat.le_refl _) (fun _ => ?_) ⟨_, _, _, rfl⟩
     exact ⟨rfl, b, rfl, rfl, rfl, hz0 rfl⟩
    ·have hn : 0 < ys.length := List.length_pos_iff.2 hne
     have hnl : news.length = ys.length * i.size := by rw [hel.len, hsz]
     have hkk : ∀ e' ∈ es, ∀ z ∈ e'.cells, z.isCell = true := by cases hp; assumption
     obtain ⟨b', cp', olds, q1, q2, q3, hold⟩ := hU (H := H) hI (x := .p (.lst es)) (.p _ _ hp) (ys := es.map .p) rfl (fun s h => by cases h) (size := zh P e) (fun y hy => by
      obtain ⟨e', he', rfl⟩ := List.mem_map.1 hy
      refine ⟨by simpa [AVal.cells] using hesz e' he', fun z hz => ?_⟩
      simp only [AVal.cells] at hz
      obtain ⟨u, hu, rfl⟩ := List.mem_map.1 hz
      exact hkk e' he' u hu)
     simp only [Value.slice.injEq, List.length_map] at q1
     obtain ⟨rfl, _, rfl⟩ := q1
     have hol : olds.length = es.length * i.size := by rw [hold.len, hsz]; simp
     have hsome : b = none → es.length = 0 := fun hb0 => by
      by_cases h0 : es = []
      ·rw [h0]; rfl
      ·obtain ⟨_, _, q4, _⟩ := hold.addr (by simpa using h0)
       rw [hb0] at q4; cases q4
     have hrun := hel.moves hne i z b es.length es.length olds hi hsz hz hol (fun hb0 => ⟨hsome hb0, hsome hb0⟩) (fun x hx j v hj => by
       have h0 : es.map AVal.p ≠ [] := by
        intro h0
        have : es = [] := by simpa using h0
        subst this
        have : olds = [] := List.eq_nil_of_length_eq_zero (by simpa using hol)
        subst this
        simp at hj
       obtain ⟨blk', off2, q4, q5⟩ := hold.addr h0
       rw [hx] at q4; cases q4
       rw [yw]; exact q5 j v hj) (by omega) hmx (by rw [← hbt]; exact hb)
     generalize hcap : grownCap w (es.length + ys.length) es.length e = ncap at hrun
     have hge : es.length + ys.length ≤ ncap := by rw [← hcap]; exact grownCap_ge w _ _ _
     have hncm : ncap ≤ maxLen := by rw [← hcap]; exact grownCap_le_maxLen w _ _ _ hmx
     obtain ⟨hs, hI'⟩ := hI.alloc (Grew.drew w) rfl (zh P e) ncap (es.map .p ++ ys) (olds.toArray ++ news.toArray ++ Builtin.zeroCells z.cells (ncap - (es.length + ys.length))) e hpos
      (by
       simp only [Array.size_append, List.size_toArray, size_zeroCells, hol, hnl, hzs, ← hsz, ← Nat.add_mul]
       congr 1; omega) hncm (by simpa using hge) (fun y hy => by
       rcases List.mem_append.1 hy with h | h
       ·obtain ⟨e', he', rfl⟩ := List.mem_map.1 h
        refine ⟨by simpa [AVal.cells] using hesz e' he', fun z hz => ?_⟩
        simp only [AVal.cells] at hz
        obtain ⟨u, hu, rfl⟩ := List.mem_map.1 hz
        exact hkk e' he' u hu
       ·exact hys' y h) (fun i' y j u hy hu => by
       rw [hsz]
       by_cases hi' : i' < es.length
       ·rw [List.getElem?_append_left (by simpa using hi')] at hy
        obtain ⟨v, r1, r2⟩ := hold.rep i' y j u hy hu
        rw [hsz] at r1
        refine ⟨v, ?_, r2⟩
        have hlt := (List.getElem?_eq_some_iff.1 r1).1
        rw [Array.getElem?_append_left (by simp; omega), Array.getElem?_append_left (by simpa using hlt)]
        simpa using r1
       ·rw [List.getElem?_append_right (by simp; omega)] at hy
        obtain ⟨v, r1, r2⟩ := hel.rep (i' - es.length) y j u (by simpa using hy) hu
        rw [hsz] at r1
        refine ⟨v, ?_, r2⟩
        have hlt := (List.getElem?_eq_some_iff.1 r1).1
        have hidx : i' * i.size + j = olds.length + ((i' - es.length) * i.size + j) := by
         rw [hol]
         have : i' = es.length + (i' - es.length) := by omega
         conv => lhs; rw [this, Nat.add_mul]
         omega
        rw [hidx, Array.getElem?_append_left (by simp; omega), Array.getElem?_append_right (by simp)]
        simp only [List.size_toArray, Nat.add_sub_cancel_left]
        simpa using r1)
     refine ⟨_, _, _, hrun, hs, hI', ?_⟩
     refine .own _ _ _ _ ⟨0, zh P e, some (w.heap.size, ncap), false⟩ _ (by simp [hI.len]) (Nat.le_refl _) (fun _ => ?_) ⟨_, _, _, rfl⟩
     exact ⟨rfl, _, _, rfl, hge, hncm, by omega, fun _ => by simp⟩
  ·cases h
theorem app_ok {T : Tab} {c : Ctx} {H : zb} {w : World} (hI : Inv base c H w) {fr : AFr} {t e : TypeId} (ht : P.underlying t = some (.slice e)) (hzz : (qb P e).cells.length = zh P e) (hzk : (qb P e).cells.all AVal.isCell = true) {lx ly : LOpd} {vx vy : Value}
  (rx : Rep c (opd fr lx) vx) (ry : Rep c (opd fr ly) vy) {ty : TypeId} {x : AVal} {H' : zb} (h : zn T (.app (zh P e) (ku P e) e lx ly) fr H = some (x, H')) :
  Done P base (Builtin.append_ #[t, t] ty #[vx, vy]) c w x H' := by
 simp only [zn] at h
 cases hy0 : jO H (opd fr ly) with
 | none => rw [hy0] at h; cases h
 | some ys =>
  rw [hy0] at h
  obtain ⟨hy, hstr⟩ := gp hy0
  simp only at h
  have h' := h
  unfold qC at h'
  split at h'
  case isFalse => cases h'
  rename_i hc
  obtain ⟨hys, hpos⟩ := hc
  have hys' : ∀ y ∈ ys, y.cells.length = zh P e ∧ ∀ z ∈ y.cells, z.isCell = true := fun y hy => by
   have := List.all_eq_true.1 hys y hy
   simp only [Bool.and_eq_true, beq_iff_eq] at this
   exact ⟨this.1, zS this.2⟩
  obtain ⟨d, hd⟩ := qv (P := P) (t := e) (by omega)
  obtain ⟨a, cp, news, rfl, hcp, hcpm, hel⟩ := hU hI ry hy hstr hys'
  refine iT hI hzz hzk rx (news := news) ⟨hel.len, hel.rep, hel.one, fun h0 b n cap hn => ?_, fun hne i g sLen sCap cur e' hi hsz hg hroom hfit => ?_, fun hne i z b sLen sCap olds hi hsz hz hol hb hoc hgr hmx hbt => ?_⟩ h
  ·subst h0
   exact pE (P := P) (ty := ty) ht hd w b a n cap cp hn
  ·obtain ⟨blk, off', rfl, hcell⟩ := hel.addr hne
   exact mM (P := P) (ty := ty) ht hi w g sLen sCap cur hg ⟨blk, off', none⟩ ys.length cp news (by rw [hel.len, hsz]) (fun j v hj => by rw [yw]; exact hcell j v hj) hel.one hroom hfit
  ·obtain ⟨blk, off', rfl, hcell⟩ := hel.addr hne
   exact mN (P := P) (ty := ty) ht hi hz w b sLen sCap olds hol hb hoc ⟨blk, off', none⟩ ys.length cp news (by rw [hel.len, hsz]) (fun j v hj => by rw [yw]; exact hcell j v hj) (List.length_pos_iff.2 hne) hgr hmx hbt
theorem dG (w : World) (size : Nat) (s : ByteArray) : (Builtin.firstCells size s.size (.string s)).run P w = .ok (s.data.toList.map fun b => Value.int .u8 b.toNat).toArray w := by
 simp [Builtin.firstCells]
 apply Array.ext'
 simp
theorem appS_ok {T : Tab} {c : Ctx} {H : zb} {w : World} (hI : Inv base c H w) {fr : AFr} {t u e : TypeId} (ht : P.underlying t = some (.slice e)) (hu : P.underlying u = some .string) (hs1 : zh P e = 1) (hzz : (qb P e).cells.length = zh P e) (hzk : (qb P e).cells.all AVal.isCell = true) {lx ly : LOpd} {vx vy : Value}
  (rx : Rep c (opd fr lx) vx) (ry : Rep c (opd fr ly) vy) {ty : TypeId} {x : AVal} {H' : zb} (h : zn T (.appS (ku P e) e lx ly) fr H = some (x, H')) :
  Done P base (Builtin.append_ #[t, u] ty #[vx, vy]) c w x H' := by
 simp only [zn] at h
 split at h
 case h_2 => cases h
 rename_i s hs
 rw [hs] at ry
 cases ry with
 | p _ _ ry =>
 cases ry with
 | str _ hlen =>
 rw [← hs1] at h
 have hsz : (⟨s.toArray⟩ : ByteArray).size = s.length := by simp [ByteArray.size]
 obtain ⟨d, hd⟩ := qv (P := P) (t := e) (by omega)
 have hf : ∀ (size : Nat) (w : World), (Builtin.firstCells size s.length (.string ⟨s.toArray⟩)).run P w = .ok (s.map fun b => Value.int .u8 b.toNat).toArray w := fun size w => by
  have := dG (P := P) w size ⟨s.toArray⟩
  rw [hsz] at this
  simpa using this
 refine iT hI hzz hzk rx (news := s.map fun b => Value.int .u8 b.toNat) ⟨by simp [hs1], fun i y j z hy hz => ?_, fun v hv => ?_, fun h0 b n cap hn => ?_, fun hne i g sLen sCap cur e' hi hsz' hg hroom hfit => ?_, fun hne i z b sLen sCap olds hi hsz' hz hol hb hoc hgr hmx hbt => ?_⟩ h
 ·rw [List.getElem?_map] at hy
  obtain ⟨b, hb, rfl⟩ := Option.map_eq_some_iff.1 hy
  cases j with
  | succ j => simp [AVal.cells, PVal.cells] at hz
  | zero =>
   simp [AVal.cells, PVal.cells] at hz
   subst hz
   exact ⟨.int .u8 b.toNat, by simp [hs1, hb], .p _ _ (.int _ _)⟩
 ·obtain ⟨b, _, rfl⟩ := List.mem_map.1 hv
  rfl
 ·have h0' : s = [] := by simpa using h0
  subst h0'
  have hf0 := hf (zh P e) w
  simp only [List.length_nil, List.map_nil] at hf0
  cases b with
  | none => simp [Builtin.append_, run_underlying ht, run_underlying hu, qy hd, Builtin.lenOf, hsz, hn, hf0]
  | some b => simp [Builtin.append_, run_underlying ht, run_underlying hu, qy hd, Builtin.lenOf, hsz, hn, hf0, storeCells]
 ·have hst := run_storeCells_at P g (sLen * i.size) e' (s.map fun b => Value.int .u8 b.toNat) 0 cur w hg (by simpa using hfit) (fun v hv => by obtain ⟨b, _, rfl⟩ := List.mem_map.1 hv; rfl)
  simp only [Nat.add_zero] at hst
  have hroom' : sLen + s.length ≤ sCap := by simpa using hroom
  simp [Builtin.append_, run_underlying ht, run_underlying hu, sizeOf, typeInfo, hi, Builtin.lenOf, hsz, hroom', hf, Addr.add_lit] at hst ⊢
  rw [hst]
  rfl
 ·simp only [List.length_map] at hgr hmx hbt
  have hn : ¬ (sLen + s.length ≤ sCap) := by omega
  have h63' : ¬ (9223372036854775807 < ((sLen : Int) + (s.length : Int))) := by unfold maxLen at hmx; omega
  have hfit := growslice_fits hgr hbt
  have h48' : ¬ (281474976710656 < Builtin.nextslicecap (sLen + s.length) sCap * i.bytes) := by omega
  have hfo : (Builtin.firstCells i.size sLen (.slice b sLen sCap)).run P w.drew = .ok olds.toArray w.drew := by
   cases b with
   | none =>
    obtain ⟨rfl, rfl⟩ := hb rfl
    have h0 : olds = [] := List.eq_nil_of_length_eq_zero (by simpa using hol)
    subst h0
    simp [Builtin.firstCells, loadCells, loadCellsFrom]
   | some b => exact run_firstCells_some (P := P) w.drew i.size sLen b sLen sCap olds hol (by simpa using hoc b rfl)
  have hf' := hf i.size w.drew
  simp [Builtin.append_, run_underlying ht, run_underlying hu, sizeOf, typeInfo, zeroValue, hi, hz, Builtin.lenOf, hsz, hn, h63', h48', Question.forced, hf', hfo, newRow, grownCap]
  congr 2
  apply Array.ext'
  simp [List.append_assoc]
end Go.Abs
