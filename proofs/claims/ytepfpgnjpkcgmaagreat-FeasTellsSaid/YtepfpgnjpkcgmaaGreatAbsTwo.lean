/-
  A library of the prover's own, part 2: operations, regions in open order, code and functions. No conditions.
-/
import Derived.Test.YtepfpgnjpkcgmaaGreatAbsOne
import Derived.Deep.LoopGhost
set_option linter.unusedSimpArgs false
set_option linter.unnecessarySimpa false
set_option linter.unusedVariables false
set_option linter.constructorNameAsVariable false

/-
 ABS, part L: copy, conversions between strings and bytes, and the small operations.
-/
namespace Go.Abs
variable {P : Program} {base : Prot}
theorem cpy_ok {T : Tab} {c : Ctx} {H : Heap} {w : World} (hI : Inv base c H w) {fr : AFr} {t e : TypeId} (ht : P.underlying t = some (.slice e)) (hel : sizeT P e ≠ 0) {lx ly : LOpd} {vx vy : Value}
  (rx : Rep c (opd fr lx) vx) (ry : Rep c (opd fr ly) vy) {ty : TypeId} {x : AVal} {H' : Heap} (h : evalOp T (.cpy (sizeT P e) lx ly) fr H = some (x, H')) :
  Done P base (Builtin.copy_ #[t, t] ty #[vx, vy]) c w x H' := by
 obtain ⟨d, hd⟩ := sizeT_some hel
 simp only [evalOp] at h
 cases hy0 : sliceOf H (opd fr ly) with
 | none => rw [hy0] at h; cases h
 | some ys =>
  rw [hy0] at h
  obtain ⟨hy, hstr⟩ := sliceOf_some hy0
  simp only at h
  split at h
  case isFalse => cases h
  rename_i hc
  obtain ⟨hys, hpos⟩ := hc
  have hys' : ∀ y ∈ ys, y.cells.length = sizeT P e ∧ ∀ z ∈ y.cells, z.isCell = true := fun y hy => by
   have := List.all_eq_true.1 hys y hy
   simp only [Bool.and_eq_true, beq_iff_eq] at this
   exact ⟨this.1, all_isCell this.2⟩
  obtain ⟨a, cp, news, rfl, hcp, hcpm, hels⟩ := elems_ok hI ry hy hstr hys'
  split at h
  case h_2 => cases h
  rename_i k off len ver hx
  rw [hx] at rx
  cases hk : H[k]? with
  | none => rw [hk] at h; cases h
  | some en =>
   rw [hk] at h
   simp only at h
   split at h
   case isFalse => cases h
   rename_i hc
   obtain ⟨hver, hes, hfz, hle, hlpos⟩ := hc
   cases h
   obtain ⟨l, hl, he, hv⟩ := own_val hI rx hk hver
   -- what is read
   have hread : ∀ n, n ≤ ys.length → (Builtin.firstCells (sizeT P e) n (.slice a ys.length cp)).run P w = .ok (news.take (n * sizeT P e)).toArray w := by
    intro n hn
    by_cases hne : ys = []
    ·subst hne
     have hn0 : n = 0 := by simpa using hn
     subst hn0
     cases a <;> simp [Builtin.firstCells, loadCells, loadCellsFrom]
    ·obtain ⟨blk, off', ha, hcell⟩ := hels.addr hne
     subst ha
     refine run_firstCells_some (P := P) w (sizeT P e) n _ ys.length cp (news.take (n * sizeT P e)) ?_ (fun j v hj => ?_)
     ·have := Nat.mul_le_mul_right (sizeT P e) hn
      rw [List.length_take, hels.len]; omega
     ·rw [List.getElem?_take] at hj
      split at hj
      ·rw [cellsAdd]; exact hcell j v hj
      ·cases hj
   have hmin : Nat.min ys.length len ≤ ys.length := Nat.min_le_left _ _
   have htake : ys.take len = ys.take (min ys.length len) := by
    by_cases h : ys.length ≤ len
    ·rw [Nat.min_eq_left h, List.take_of_length_le h, List.take_of_length_le (Nat.le_refl _)]
    ·rw [Nat.min_eq_right (by omega)]
   have hnl : (news.take (min ys.length len * sizeT P e)).length = min ys.length len * sizeT P e := by
    have := Nat.mul_le_mul_right (sizeT P e) hmin
    have e1 : Nat.min ys.length len = min ys.length len := rfl
    rw [e1] at this
    rw [List.length_take, hels.len]; omega
   unfold OwnVal at hv
   cases hp : l.place with
   | none =>
    simp only [hp] at hv
    obtain ⟨b, _, _, h0⟩ := hv
    omega
   | some q =>
    obtain ⟨g, cap⟩ := q
    simp only [hp] at hv
    obtain ⟨b, cq, rfl, q2, q3, q4, q5⟩ := hv
    obtain ⟨cur, ty', a1, a2, a3, a4, a5, a6⟩ := he.there g cap hp
    have hbound : off * sizeT P e + min ys.length len * sizeT P e ≤ cur.size := by
     rw [← Nat.add_mul, a2, hes]
     exact Nat.mul_le_mul_right _ (by have := Nat.min_le_right ys.length len; omega)
    have hbl : off * sizeT P e + (news.take (min ys.length len * sizeT P e)).length ≤ cur.toList.length := by rw [hnl]; simpa using hbound
    have hlen' : (en.elems.take off ++ ys.take len ++ en.elems.drop (off + min ys.length len)).length = en.elems.length := by
     rw [htake]; simp; omega
    obtain ⟨c', hs, hI'⟩ := hI.setCells hk hl hp hfz a1 a2 a3 (cur.toList.take (off * sizeT P e) ++ news.take (min ys.length len * sizeT P e) ++ cur.toList.drop (off * sizeT P e + (news.take (min ys.length len * sizeT P e)).length)).toArray
     (by rw [List.size_toArray, splice_length _ _ _ hbl]; rfl) (en.elems.take off ++ ys.take len ++ en.elems.drop (off + min ys.length len)) hlen' (fun y hy => by
      rcases List.mem_append.1 hy with h1 | h1
      ·rcases List.mem_append.1 h1 with h2 | h2
       ·exact he.cells y (List.mem_of_mem_take h2)
       ·rw [hes]; exact hys' y (List.mem_of_mem_take h2)
      ·exact he.cells y (List.mem_of_mem_drop h1)) (fun i' y j u hy hu => by
      have hyl : (ys.take (min ys.length len)).length = min ys.length len := by simp
      rw [htake] at hy
      have hsp := splice_get en.elems (ys.take (min ys.length len)) off (by rw [hyl]; have := Nat.min_le_right ys.length len; omega) i'
      rw [hyl] at hsp
      rw [hsp] at hy
      rw [List.getElem?_toArray, splice_get _ _ _ hbl, hnl, hes]
      by_cases hin : off ≤ i' ∧ i' < off + min ys.length len
      ·rw [if_pos hin] at hy
       rw [List.getElem?_take, if_pos (by omega)] at hy
       obtain ⟨v, r1, r2⟩ := hels.rep (i' - off) y j u hy hu
       have hj : j < sizeT P e := by rw [← (hys' y (List.mem_of_getElem? hy)).1]; exact (List.getElem?_eq_some_iff.1 hu).1
       have hlt : (i' - off) * sizeT P e + j < min ys.length len * sizeT P e := idx_lt (by omega) hj
       have hidx : i' * sizeT P e + j = off * sizeT P e + ((i' - off) * sizeT P e + j) := by
        have : i' = off + (i' - off) := by omega
        conv => lhs; rw [this, Nat.add_mul]
        omega
       refine ⟨v, ?_, r2⟩
       rw [hidx, if_pos (by omega), Nat.add_sub_cancel_left, List.getElem?_take, if_pos hlt]
       exact r1
      ·rw [if_neg hin] at hy
       obtain ⟨v, r1, r2⟩ := a5 i' y j u hy hu
       have hj : j < sizeT P e := by rw [← hes, ← (he.cells y (List.mem_of_getElem? hy)).1]; exact (List.getElem?_eq_some_iff.1 hu).1
       refine ⟨v, ?_, r2⟩
       rw [if_neg (by
        intro hcon
        by_cases h1 : i' < off
        ·have := idx_lt h1 hj; omega
        ·have h2 : (off + min ys.length len) * sizeT P e ≤ i' * sizeT P e := Nat.mul_le_mul_right _ (by omega)
         rw [Nat.add_mul] at h2
         omega)]
       rw [hes] at r1
       simpa using r1)
    refine ⟨_, _, c', ?_, hs, hI', .p _ _ (.int _ _)⟩
    have hr := hread (min ys.length len) hmin
    obtain ⟨rfl, rfl⟩ := q5 (.inl hlpos)
    have hst := run_storeCells_at P g (off * sizeT P e) ty' (news.take (min ys.length len * sizeT P e)) 0 cur w a1 (by rw [Nat.add_zero]; simpa using hbl) (fun v hv => hels.one v (List.mem_of_mem_take hv))
    simp only [Nat.add_zero] at hst
    rw [he.size, hes]
    have hr' : (Builtin.firstCells (sizeT P e) (Nat.min ys.length len) (.slice a ys.length cp)).run P w = _ := hr
    have hgo : (goInt (Nat.min ys.length len : Nat) : Value) = .int .i64 (min ys.length len : Nat) := rfl
    unfold Builtin.copy_
    simp [run_underlying ht, Builtin.lenOf, run_sizeT hd, hr', hst]
    show Value.int .i64 ((min ys.length len : Nat) : Int) = _
    congr 1; omega
theorem clr_ok {T : Tab} {c : Ctx} {H : Heap} {w : World} (hI : Inv base c H w) {fr : AFr} {t e : TypeId} (ht : P.underlying t = some (.slice e)) (hel : sizeT P e ≠ 0) (hzz : (zeroT P e).cells.length = sizeT P e) (hzk : (zeroT P e).cells.all AVal.isCell = true) {lx : LOpd} {vx : Value}
  (rx : Rep c (opd fr lx) vx) {ty : TypeId} {x : AVal} {H' : Heap} (h : evalOp T (.clr (sizeT P e) (zeroT P e) lx) fr H = some (x, H')) :
  Done P base (Builtin.clear_ #[t] ty #[vx]) c w x H' := by
 obtain ⟨i, z, hi, hz, hze⟩ := zeroT_ok hzk
 obtain ⟨d, hd⟩ := sizeT_some hel
 have rz := (constA_ok c z).cells (all_isCell (by rw [← hze]; exact hzk))
 have hzs : z.cells.size = sizeT P e := by have := rz.1.1; rw [← hze] at this; simp at this; omega
 simp only [evalOp] at h
 split at h
 case h_2 => cases h
 rename_i k off len ver hx
 rw [hx] at rx
 cases hk : H[k]? with
 | none => rw [hk] at h; cases h
 | some en =>
  rw [hk] at h
  simp only at h
  split at h
  case isFalse => cases h
  rename_i hc
  obtain ⟨hver, hes, hfz, hle, hlpos⟩ := hc
  cases h
  obtain ⟨l, hl, he, hv⟩ := own_val hI rx hk hver
  unfold OwnVal at hv
  cases hp : l.place with
  | none =>
   simp only [hp] at hv
   obtain ⟨b, _, _, h0⟩ := hv
   omega
  | some q =>
   obtain ⟨g, cap⟩ := q
   simp only [hp] at hv
   obtain ⟨b, cq, rfl, q2, q3, q4, q5⟩ := hv
   obtain ⟨cur, ty', a1, a2, a3, a4, a5, a6⟩ := he.there g cap hp
   obtain ⟨news, hnews⟩ : ∃ news, news = (Builtin.zeroCells z.cells len).toList := ⟨_, rfl⟩
   have hnl : news.length = len * sizeT P e := by rw [hnews, Array.length_toList, size_zeroCells, hzs]
   have hget : ∀ i' j, i' < len → j < sizeT P e → news[i' * sizeT P e + j]? = z.cells[j]? := fun i' j h1 h2 => by
    have hm := made_get z.cells (sizeT P e) len i' j hzs h2 h1
    rw [hnews, Array.getElem?_toList, show Builtin.zeroCells z.cells len = madeCells z.cells (len * sizeT P e) by rw [← hzs]; rfl, hm]
    simp [hzs, h2]
   have hones : ∀ v ∈ news, v.oneCell' = true := fun v hv => by
    obtain ⟨q, hq1, hq2⟩ := List.getElem_of_mem hv
    have hs0 : 0 < sizeT P e := Nat.pos_of_ne_zero hel
    have h2 : q % sizeT P e < sizeT P e := Nat.mod_lt _ hs0
    have h1 : q / sizeT P e < len := Nat.div_lt_of_lt_mul (by rw [Nat.mul_comm, ← hnl]; exact hq1)
    have hg := hget (q / sizeT P e) (q % sizeT P e) h1 h2
    rw [Nat.mul_comm, Nat.div_add_mod, List.getElem?_eq_getElem hq1, hq2] at hg
    exact rz.ones v (List.mem_of_getElem? (by rw [Array.getElem?_toList]; exact hg.symm))
   have hbound : off * sizeT P e + len * sizeT P e ≤ cur.size := by
    rw [← Nat.add_mul, a2, hes]
    exact Nat.mul_le_mul_right _ (by omega)
   have hbl : off * sizeT P e + news.length ≤ cur.toList.length := by rw [hnl]; simpa using hbound
   have hrl : (List.replicate len (zeroT P e)).length = len := by simp
   have hlen' : (en.elems.take off ++ List.replicate len (zeroT P e) ++ en.elems.drop (off + len)).length = en.elems.length := by
    simp; omega
   obtain ⟨c', hs, hI'⟩ := hI.setCells hk hl hp hfz a1 a2 a3 (cur.toList.take (off * sizeT P e) ++ news ++ cur.toList.drop (off * sizeT P e + news.length)).toArray
    (by rw [List.size_toArray, splice_length _ _ _ hbl]; rfl) (en.elems.take off ++ List.replicate len (zeroT P e) ++ en.elems.drop (off + len)) hlen' (fun y hy => by
     rcases List.mem_append.1 hy with h1 | h1
     ·rcases List.mem_append.1 h1 with h2 | h2
      ·exact he.cells y (List.mem_of_mem_take h2)
      ·rw [hes, (List.mem_replicate.1 h2).2]; exact ⟨hzz, all_isCell hzk⟩
     ·exact he.cells y (List.mem_of_mem_drop h1)) (fun i' y j u hy hu => by
     have hsp := splice_get en.elems (List.replicate len (zeroT P e)) off (by rw [hrl]; omega) i'
     rw [hrl] at hsp
     rw [hsp] at hy
     rw [List.getElem?_toArray, splice_get _ _ _ hbl, hnl, hes]
     by_cases hin : off ≤ i' ∧ i' < off + len
     ·rw [if_pos hin] at hy
      rw [List.getElem?_replicate, if_pos (by omega)] at hy
      cases hy
      have hj : j < sizeT P e := by rw [← hzz]; exact (List.getElem?_eq_some_iff.1 hu).1
      have hlt : (i' - off) * sizeT P e + j < len * sizeT P e := idx_lt (by omega) hj
      have hidx : i' * sizeT P e + j = off * sizeT P e + ((i' - off) * sizeT P e + j) := by
       have : i' = off + (i' - off) := by omega
       conv => lhs; rw [this, Nat.add_mul]
       omega
      have hzj : z.cells[j]? = some z.cells[j] := Array.getElem?_eq_getElem (by omega)
      refine ⟨z.cells[j], ?_, ?_⟩
      ·rw [hidx, if_pos (by omega), Nat.add_sub_cancel_left, hget _ _ (by omega) hj, hzj]
      ·have h1 := rz.1.2 j u _ (by rw [← hze]; exact hu) (by rw [Array.getElem?_toList]; exact hzj)
       exact h1
     ·rw [if_neg hin] at hy
      obtain ⟨v, r1, r2⟩ := a5 i' y j u hy hu
      have hj : j < sizeT P e := by rw [← hes, ← (he.cells y (List.mem_of_getElem? hy)).1]; exact (List.getElem?_eq_some_iff.1 hu).1
      refine ⟨v, ?_, r2⟩
      rw [if_neg (by
       intro hcon
       by_cases h1 : i' < off
       ·have := idx_lt h1 hj; omega
       ·have h2 : (off + len) * sizeT P e ≤ i' * sizeT P e := Nat.mul_le_mul_right _ (by omega)
        rw [Nat.add_mul] at h2
        omega)]
      rw [hes] at r1
      simpa using r1)
   refine ⟨_, _, c', ?_, hs, hI', .p _ _ (.tup [] [] rfl (by simp))⟩
   obtain ⟨rfl, rfl⟩ := q5 (.inl hlpos)
   have hst := run_storeCells_at P g (off * sizeT P e) ty' news 0 cur w a1 (by rw [Nat.add_zero]; simpa using hbl) hones
   simp only [Nat.add_zero] at hst
   rw [he.size, hes]
   obtain ⟨m, rfl⟩ : ∃ m, len = m + 1 := ⟨len - 1, by omega⟩
   unfold Builtin.clear_
   simp [run_underlying ht, zeroValue, typeInfo, hi, hz, hst, ← hnews]
theorem s2b_ok {T : Tab} {c : Ctx} {H : Heap} {w : World} (hI : Inv base c H w) {fr : AFr} {s t e : TypeId} (hs : P.underlying s = some .string) (ht : P.underlying t = some (.slice e)) (he : P.underlying e = some (.int .u8)) {lx : LOpd} {vx : Value}
  (rx : Rep c (opd fr lx) vx) {x : AVal} {H' : Heap} (h : evalOp T (.conv .s2b lx) fr H = some (x, H')) : Done P base (convert s t vx) c w x H' := by
 simp only [evalOp] at h
 split at h
 case h_2 => cases h
 rename_i b hx
 cases h
 rw [hx] at rx
 cases rx with
 | p _ _ hp =>
  cases hp with
  | str _ hb =>
   have hsz : (⟨b.toArray⟩ : ByteArray).size = b.length := by simp [ByteArray.size]
   have hrun := run_bytes_of_string (P := P) w s t e ⟨b.toArray⟩ hs ht he
   generalize hcap : grownCap w (⟨b.toArray⟩ : ByteArray).size 0 e = cap at hrun
   have hge : b.length ≤ cap := by rw [← hcap, hsz]; exact grownCap_ge w _ _ _
   have hcm : cap ≤ maxLen := by rw [← hcap, hsz]; exact grownCap_le_maxLen w _ _ _ hb
   generalize hrow : bytesRow ⟨b.toArray⟩ cap = row at hrun
   have hget : ∀ j (hj : j < b.length), row[j]? = some (.int .u8 b[j].toNat) := by
    intro j hj
    rw [← hrow]
    unfold bytesRow
    rw [Array.getElem?_append_left (by simpa using hj)]
    simp [hj]
   have hg := (Grew.drew w).alloc (.cells row e (row.size, row.size + 1))
   have hheap : (w.drew.alloc (.cells row e (row.size, row.size + 1))).heap[w.heap.size]? = some (.cells row e (row.size, row.size + 1)) := heap_alloc_new w.drew _
   let pr : Prot := fun g o => if g = w.heap.size then (if o < b.length then row[o]? else none) else c.prot g o
   have hpr : ∀ o, o < b.length → pr w.heap.size o = row[o]? := fun o ho => by simp [pr, ho]
   obtain ⟨hs', hI'⟩ := hI.promise hg pr (fun g o v hv => by
     have : g ≠ w.heap.size := fun h => by have := hI.prot_lt hv; omega
     simp only [pr, if_neg this]; exact hv) (fun g o v hv => by
     by_cases hgw : g = w.heap.size
     ·subst hgw
      simp only [pr, if_true] at hv
      split at hv
      ·right
       refine ⟨Nat.le_refl _, ?_⟩
       rw [cell_of_row _ _ _ _ _ _ hheap]; exact hv
      ·cases hv
     ·simp only [pr, if_neg hgw] at hv
      exact .inl hv)
   refine ⟨_, _, _, hrun, hs', hI', ?_⟩
   rw [hsz]
   refine .p _ _ (.lst _ _ _ _ 1 w.heap.size 0 (fun i j => (row[i]?).getD undef) (by simp) hge hcm (fun _ => rfl) (fun y hy => ?_) (fun i j hi hj => ?_) (fun i y j z hy hz => ?_) (fun y hy z hz => ?_))
   ·obtain ⟨u, _, rfl⟩ := List.mem_map.1 hy; rfl
   ·have hi' : i < b.length := by simpa using hi
    have : j = 0 := by omega
    subst this
    show pr _ _ = _
    rw [show 0 + i * 1 + 0 = i from by omega, hpr i hi', hget i hi', Option.getD_some]
   ·rw [List.getElem?_map] at hy
    obtain ⟨u, hu, rfl⟩ := Option.map_eq_some_iff.1 hy
    have hi' : i < b.length := (List.getElem?_eq_some_iff.1 hu).1
    have hu2 : b[i] = u := (List.getElem?_eq_some_iff.1 hu).2
    rw [hget i hi', Option.getD_some, hu2]
    cases j with
    | zero => simp [PVal.cells] at hz; subst hz; exact .int _ _
    | succ j => simp [PVal.cells] at hz
   ·obtain ⟨u, _, rfl⟩ := List.mem_map.1 hy
    simp [PVal.cells] at hz; subst hz; rfl
theorem bytesOf_some : ∀ {es : List AVal} {bs : List UInt8}, bytesOf es = some bs → ∃ ns : List Int, es = ns.map (fun n => .p (.int .u8 n)) ∧ bs = ns.map fun n => UInt8.ofNat n.toNat
 | [], bs, h => by simp [bytesOf] at h; subst h; exact ⟨[], rfl, rfl⟩
 | x :: r, bs, h => by
  unfold bytesOf at h
  split at h
  ·cases h; rename_i h1; cases h1
  ·rename_i n r' heq
   cases heq
   cases hr : bytesOf r with
   | none => rw [hr] at h; cases h
   | some bs' =>
    rw [hr] at h; cases h
    obtain ⟨ns, rfl, rfl⟩ := bytesOf_some hr
    exact ⟨n :: ns, rfl, rfl⟩
  ·cases h
theorem foldl_push (ns : List Int) : ∀ acc : List UInt8, ns.foldl (fun (r : ByteArray) n => r.push (UInt8.ofNat n.toNat)) ⟨acc.toArray⟩ = ⟨(acc ++ ns.map fun n => UInt8.ofNat n.toNat).toArray⟩ := by
 induction ns with
 | nil => intro acc; simp
 | cons n ns ih =>
  intro acc
  simp only [List.foldl_cons, List.map_cons]
  have : (⟨acc.toArray⟩ : ByteArray).push (UInt8.ofNat n.toNat) = ⟨(acc ++ [UInt8.ofNat n.toNat]).toArray⟩ := by
   unfold ByteArray.push
   simp
  rw [this, ih]
  simp
theorem b2s_ok {T : Tab} {c : Ctx} {H : Heap} {w : World} (hI : Inv base c H w) {fr : AFr} {s t e : TypeId} (hs : P.underlying s = some (.slice e)) (ht : P.underlying t = some .string) (he : P.underlying e = some (.int .u8)) {lx : LOpd} {vx : Value}
  (rx : Rep c (opd fr lx) vx) {x : AVal} {H' : Heap} (h : evalOp T (.conv .b2s lx) fr H = some (x, H')) : Done P base (convert s t vx) c w x H' := by
 simp only [evalOp] at h
 split at h
 ·cases h
 rename_i hns
 cases hy : elemsOf H (opd fr lx) with
 | none => rw [hy] at h; cases h
 | some ys =>
  rw [hy] at h
  simp only at h
  cases hb : bytesOf ys with
  | none => rw [hb] at h; cases h
  | some bs =>
   rw [hb] at h; cases h
   obtain ⟨ns, rfl, rfl⟩ := bytesOf_some hb
   obtain ⟨a, cp, vs, rfl, h1, h2, hel⟩ := elems_ok hI rx hy (fun s h => hns s h) (size := 1) (fun y hy => by
    obtain ⟨n, _, rfl⟩ := List.mem_map.1 hy
    exact ⟨rfl, fun z hz => by simp [AVal.cells, PVal.cells] at hz; subst hz; rfl⟩)
   have hlen : ns.length ≤ maxLen := by simp at h1; omega
   have hfin : ∀ v, v = .string (ns.foldl (fun r n => r.push (UInt8.ofNat n.toNat)) ByteArray.empty) → Rep c (.p (.str (ns.map fun n => UInt8.ofNat n.toNat))) v := by
    intro v hv
    subst hv
    have := foldl_push ns []
    rw [List.nil_append] at this
    have he : (ByteArray.empty : ByteArray) = ⟨([] : List UInt8).toArray⟩ := rfl
    rw [he, this]
    exact .p _ _ (.str _ (by simpa using hlen))
   have hconv : (convert s t (.slice a (ns.map fun n => AVal.p (.int .u8 n)).length cp)).run P w = (Conv.bytesToString (.slice a (ns.map fun n => AVal.p (.int .u8 n)).length cp)).run P w := by
    simp [convert, run_underlying hs, run_underlying ht, run_underlying he]
   by_cases hne : ns = []
   ·subst hne
    refine .still hI (v := .string ByteArray.empty) ?_ (hfin _ rfl)
    rw [hconv]
    cases a with
    | none => rfl
    | some a => simpa using run_bytesToString (P := P) w a 0 cp [] (by simp [loadCells, loadCellsFrom])
   ·obtain ⟨blk, off, ha, hcell⟩ := hel.addr (by simpa using hne)
    subst ha
    refine .still hI ?_ (hfin _ rfl)
    rw [hconv]
    have hvs : vs = ns.map (Value.int .u8) := by
     apply List.ext_getElem?
     intro i
     by_cases hi : i < ns.length
     ·obtain ⟨v, r1, r2⟩ := hel.rep i (.p (.int .u8 ns[i])) 0 (.p (.int .u8 ns[i])) (by simp [hi]) rfl
      rw [Nat.mul_one, Nat.add_zero] at r1
      rw [r1]
      cases r2 with
      | p _ _ hp => cases hp; simp [hi]
     ·rw [List.getElem?_eq_none (by have := hel.len; simp at this; omega), List.getElem?_eq_none (by simp; omega)]
    have := run_bytesToString (P := P) w ⟨blk, off, none⟩ ns.length cp ns (by
     have hl := run_loadCells_list (P := P) w ⟨blk, off, none⟩ (ns.map (Value.int .u8)) (fun j v hj => by rw [cellsAdd]; rw [← hvs] at hj; exact hcell j v hj)
     simpa using hl)
    simpa using this
end Go.Abs

/-
 ABS, part M: comparisons, the small operations, and any operation.
-/
namespace Go.Abs
variable {P : Program} {base : Prot}
theorem run_eqFields (w : World) (d : Nat) : ∀ (fs : List Field) (ks : List SK) (xs ys : List Value) (s : Nat) (as bs : List PVal) (t : Bool) (pr : Prot), (∀ f ∈ fs, f.name ≠ "_") → fs.map (·.offset) = (List.range' s fs.length) →
  mapO (fun f => scalarK P f.type) fs = some ks → eqCells ks as bs = some t → (∀ (j : Nat) a v, as[j]? = some a → xs[s + j]? = some v → PRep pr a v) → (∀ (j : Nat) b v, bs[j]? = some b → ys[s + j]? = some v → PRep pr b v) →
  s + as.length = xs.length → s + bs.length = ys.length → (Op.eqFields (d + 1) xs.toArray ys.toArray fs).run P w = .ok t w
 | [], ks, xs, ys, s, as, bs, t, pr, _, _, hk, he, _, _, _, _ => by
  simp [mapO] at hk
  subst hk
  cases as <;> cases bs <;> simp [eqCells] at he
  subst he
  simp [Op.eqFields]
 | f :: fs, ks, xs, ys, s, as, bs, t, pr, hn, ho, hk, he, ha, hb, la, lb => by
  simp only [mapO] at hk
  cases hsk : scalarK P f.type with
  | none => simp [hsk] at hk
  | some k =>
   cases hm : mapO (fun f => scalarK P f.type) fs with
   | none => simp [hsk, hm] at hk
   | some ks' =>
    simp [hsk, hm] at hk
    subst hk
    cases as with
    | nil => cases bs <;> simp [eqCells] at he
    | cons a as =>
     cases bs with
     | nil => simp [eqCells] at he
     | cons b bs =>
      simp only [eqCells] at he
      cases hc : eqCell k a b with
      | none => rw [hc] at he; cases he
      | some r =>
       rw [hc] at he
       simp only at he
       cases hcs : eqCells ks' as bs with
       | none => rw [hcs] at he; cases he
       | some r' =>
        rw [hcs] at he; cases he
        simp only [List.length_cons] at la lb
        have hxs : s < xs.length := by omega
        have hys : s < ys.length := by omega
        have ra := ha 0 a xs[s] rfl (by simp [hxs])
        have rb := hb 0 b ys[s] rfl (by simp [hys])
        simp only [List.map_cons, List.length_cons, List.range'_succ, List.cons.injEq] at ho
        obtain ⟨ho1, ho2⟩ := ho
        have ih := run_eqFields w d fs ks' xs ys (s + 1) as bs r' pr (fun f hf => hn f (by simp [hf])) ho2 hm hcs (fun j a v h1 h2 => ha (j + 1) a v (by simpa using h1) (by rw [← Nat.add_assoc, Nat.add_right_comm]; exact h2))
         (fun j b v h1 h2 => hb (j + 1) b v (by simpa using h1) (by rw [← Nat.add_assoc, Nat.add_right_comm]; exact h2)) (by omega) (by omega)
        have hnf : f.name ≠ "_" := hn f (by simp)
        -- the field's type, and the two cells
        have hag : isAggT P f.type = false := by
         unfold scalarK at hsk
         unfold isAggT
         cases hu : P.underlying f.type with
         | none => rfl
         | some d => cases d <;> simp [hu] at hsk ⊢
        have hcell : (Op.equalIn (d + 1) f.type xs[s] ys[s]).run P w = .ok r w := by
         unfold scalarK at hsk
         cases hu : P.underlying f.type with
         | none => simp [hu] at hsk
         | some dd =>
          cases dd <;> simp [hu] at hsk <;> subst hsk <;> cases a <;> cases b <;> simp [eqCell] at hc
          ·subst hc
           cases hra : xs[s] <;> rw [hra] at ra <;> cases ra
           cases hrb : ys[s] <;> rw [hrb] at rb <;> cases rb
           exact run_equalIn_bool' w d f.type _ _ hu
          ·obtain ⟨rfl, rfl⟩ := hc
           cases hra : xs[s] <;> rw [hra] at ra <;> cases ra
           cases hrb : ys[s] <;> rw [hrb] at rb <;> cases rb
           exact run_equalIn_int w d f.type _ _ _ _ hu
          ·subst hc
           cases hra : xs[s] <;> rw [hra] at ra <;> cases ra
           cases hrb : ys[s] <;> rw [hrb] at rb <;> cases rb
           rw [run_equalIn_string w d f.type _ _ hu]
           simp
        have hd : ∃ dd, P.underlying f.type = some dd := by
         unfold scalarK at hsk
         cases hu : P.underlying f.type with
         | none => simp [hu] at hsk
         | some dd => exact ⟨dd, rfl⟩
        obtain ⟨dd, hd⟩ := hd
        have hp : ∀ vs : List Value, (h : s < vs.length) → (part f.type vs.toArray f.offset).run P w = .ok vs[s] w := fun vs h => by
         unfold part
         rw [ho1]
         simp [run_isAgg hd, hag, h]
        simp only [Op.eqFields, hnf, ne_eq, not_false_eq_true, if_true, Sem.run_bind, hp xs hxs, hp ys hys, Result.andThen_ok, hcell]
        cases r with
        | true => simpa using ih
        | false => simp
end Go.Abs
namespace Go.Abs
variable {P : Program} {base : Prot}
theorem bin_ok {T : Tab} {c : Ctx} {H : Heap} {w : World} (hI : Inv base c H w) {fr : AFr} {op : BinOp} {t : TypeId} {ox oy : Operand} {lx ly : LOpd} {vx vy : Value} (rx : Rep c (opd fr lx) vx) (ry : Rep c (opd fr ly) vy)
  {x : AVal} {H' : Heap} (h : evalOp T (.bin op lx ly) fr H = some (x, H')) : Done P base (do eqGuard op t ox oy vx vy; binOp op t vx vy) c w x H' := by
 simp only [evalOp] at h
 cases hb : binV op (opd fr lx) (opd fr ly) with
 | none => rw [hb] at h; cases h
 | some p =>
  rw [hb] at h; cases h
  have fin : ∀ v, (∀ cs, vx ≠ .agg cs) → vx ≠ .nilIface → (binOp op t vx vy).run P w = .ok v w → (∀ pr, PRep pr p v) → Done P base (do eqGuard op t ox oy vx vy; binOp op t vx vy) c w (.p p) H := fun v h1 h2 h3 h4 =>
   .still hI (v := v) (by simp [Sem.run_bind, eqGuard_plain h1 h2, h3]) (.p _ _ (h4 _))
  generalize hx : opd fr lx = ax at *
  generalize hy : opd fr ly = ay at *
  unfold binV at hb
  split at hb
  ·rename_i k a k' b
   cases rx with | p _ _ rx => cases rx; cases ry with | p _ _ ry => cases ry; (
    split at hb
    ·obtain ⟨v, h1, h2⟩ := shiftI_run op k k' a b t p hb w
     exact fin v (by simp) (by simp) h1 h2
    ·split at hb
     ·rename_i hk; subst hk
      obtain ⟨v, h1, h2⟩ := binI_run op k a b t p hb w
      exact fin v (by simp) (by simp) h1 h2
     ·cases hb)
  ·rename_i a b
   cases rx with | p _ _ rx => cases rx; cases ry with | p _ _ ry => cases ry; (
    obtain ⟨v, h1, h2⟩ := binS_run op a b t p hb w
    exact fin v (by simp) (by simp) h1 h2)
  ·rename_i k a k' b
   cases rx with | p _ _ rx => cases rx; cases ry with | p _ _ ry => cases ry; (
    split at hb
    ·rename_i hk; subst hk
     obtain ⟨v, h1, h2⟩ := binF_run op k a b t p hb w
     exact fin v (by simp) (by simp) h1 h2
    ·cases hb)
  ·cases hb
theorem eqB_ok {T : Tab} {c : Ctx} {H : Heap} {w : World} (hI : Inv base c H w) {fr : AFr} {op : BinOp} {neg : Bool} (hop : op = if neg then .neq else .eql) {t : TypeId} (ht : P.underlying t = some .bool) {ox oy : Operand} {lx ly : LOpd} {vx vy : Value} (rx : Rep c (opd fr lx) vx) (ry : Rep c (opd fr ly) vy)
  {x : AVal} {H' : Heap} (h : evalOp T (.eqB neg lx ly) fr H = some (x, H')) : Done P base (do eqGuard op t ox oy vx vy; binOp op t vx vy) c w x H' := by
 simp only [evalOp] at h
 split at h
 case h_2 => cases h
 rename_i a b hx hy
 cases h
 rw [hx] at rx
 rw [hy] at ry
 cases rx with | p _ _ rx => cases rx; cases ry with | p _ _ ry => cases ry; (
  refine .still hI (v := .bool ((a == b) != neg)) ?_ (.p _ _ (.bool _))
  subst hop
  cases neg <;> simp [Sem.run_bind, eqGuard_plain, binOp, Op.equal, Op.maxDepth, run_equalIn_bool' w _ t a b ht])
theorem eqA_ok {T : Tab} {c : Ctx} {H : Heap} {w : World} (hI : Inv base c H w) {fr : AFr} {op : BinOp} {neg : Bool} (hop : op = if neg then .neq else .eql) {t : TypeId} {ks : List SK} (ht : flatK P t = some ks) {ox oy : Operand} {lx ly : LOpd} {vx vy : Value} (rx : Rep c (opd fr lx) vx) (ry : Rep c (opd fr ly) vy)
  {x : AVal} {H' : Heap} (h : evalOp T (.eqA neg ks lx ly) fr H = some (x, H')) : Done P base (do eqGuard op t ox oy vx vy; binOp op t vx vy) c w x H' := by
 simp only [evalOp] at h
 split at h
 case h_2 => cases h
 rename_i as bs hx hy
 cases he : eqCells ks as bs with
 | none => rw [he] at h; cases h
 | some r =>
  rw [he] at h; cases h
  rw [hx] at rx
  rw [hy] at ry
  cases rx with | p _ _ rx => cases rx with | agg _ vs la ra ka => cases ry with | p _ _ ry => cases ry with | agg _ us lb rb kb => (
   unfold flatK at ht
   split at ht
   case h_2 => cases ht
   rename_i fields hu
   split at ht
   case isFalse => cases ht
   rename_i hc
   simp only [Bool.and_eq_true, Bool.not_eq_true', List.all_eq_true, bne_iff_ne, beq_iff_eq] at hc
   obtain ⟨⟨⟨hs, hn⟩, ho⟩, hg⟩ := hc
   have hfo : P.fieldsOf t = fields := by simp [Program.fieldsOf, hu]
   have hlen : fields.size = fields.toList.length := by simp
   have hrun := run_eqFields (P := P) w 9998 fields.toList ks vs us 0 as bs r c.prot hn (by rw [ho, hlen, List.range_eq_range']) ht he (fun j a v h1 h2 => ra j a v h1 (by simpa using h2)) (fun j b v h1 h2 => rb j b v h1 (by simpa using h2)) (by omega) (by omega)
   have heq := run_equalIn_struct (P := P) w 9999 t vs.toArray us.toArray (by rw [hfo]; exact hu) hs
   rw [hfo] at heq
   refine .still hI (v := .bool (r != neg)) ?_ (.p _ _ (.bool _))
   subst hop
   cases neg with
   | false =>
    simp only [Bool.false_eq_true, if_false, Sem.run_bind, run_eqGuard_agg w .eql t ox oy _ _ hg, Result.andThen_ok, run_eql_struct, heq, hrun]
    simp
   | true =>
    simp only [if_true, Sem.run_bind, run_eqGuard_agg w .neq t ox oy _ _ hg, Result.andThen_ok, run_neq_struct, heq, hrun]
    simp)
end Go.Abs

/-
 ABS, part N: the small operations, and any operation.
-/
namespace Go.Abs
variable {P : Program} {base : Prot}
theorem run_eqIn_ptr (w : World) (d : Nat) {t e : TypeId} (ht : P.underlying t = some (.pointer e)) (a : Option Addr) : (Op.equalIn (d + 1) t (.pointer a) (.pointer none)).run P w = .ok a.isNone w := by
 cases a <;> simp only [Op.equalIn, Sem.run_bind, run_underlying ht, Result.andThen_ok] <;> rfl
theorem run_eqIn_fn (w : World) (d : Nat) {t : TypeId} {a b : Array TypeId} {v : Bool} (ht : P.underlying t = some (.func a b v)) (fn : Fn) (x y : Array Value) : (Op.equalIn (d + 1) t (.func fn x y) .nilFunc).run P w = .ok false w := by
 simp only [Op.equalIn, Sem.run_bind, run_underlying ht, Result.andThen_ok]; rfl
theorem run_eqIn_nilfn (w : World) (d : Nat) {t : TypeId} {a b : Array TypeId} {v : Bool} (ht : P.underlying t = some (.func a b v)) : (Op.equalIn (d + 1) t .nilFunc .nilFunc).run P w = .ok true w := by
 simp only [Op.equalIn, Sem.run_bind, run_underlying ht, Result.andThen_ok]; rfl
theorem binOp_eq_of {w : World} {t : TypeId} {x y : Value} {r : Bool} (h1 : binOp .eql t x y = (do pure (.bool (← Op.equal t x y)))) (h2 : binOp .neq t x y = (do pure (.bool (!(← Op.equal t x y))))) (h : (Op.equalIn (9999 + 1) t x y).run P w = .ok r w) :
  (binOp .eql t x y).run P w = .ok (.bool r) w ∧ (binOp .neq t x y).run P w = .ok (.bool (!r)) w := by
 have h' : (Op.equal t x y).run P w = .ok r w := h
 rw [h1, h2]
 simp [h']
theorem eqN_ok {T : Tab} {c : Ctx} {H : Heap} {w : World} (hI : Inv base c H w) {fr : AFr} {op : BinOp} {neg fn : Bool} (hop : op = if neg then .neq else .eql) {t : TypeId} (ht : if fn then ∃ a b v, P.underlying t = some (.func a b v) else ∃ e, P.underlying t = some (.pointer e)) {ox oy : Operand} {lx ly : LOpd} {vx vy : Value} (rx : Rep c (opd fr lx) vx) (ry : Rep c (opd fr ly) vy)
  {x : AVal} {H' : Heap} (h : evalOp T (.eqN neg fn lx ly) fr H = some (x, H')) : Done P base (do eqGuard op t ox oy vx vy; binOp op t vx vy) c w x H' := by
 simp only [evalOp] at h
 cases he : eqNil H fn (opd fr lx) (opd fr ly) with
 | none => rw [he] at h; cases h
 | some r =>
  rw [he] at h; cases h
  have fin : ∀ r, (∀ cs, vx ≠ .agg cs) → vx ≠ .nilIface → (binOp .eql t vx vy).run P w = .ok (.bool r) w → (binOp .neq t vx vy).run P w = .ok (.bool (!r)) w → Done P base (do eqGuard op t ox oy vx vy; binOp op t vx vy) c w (.p (.bool (r != neg))) H := by
   intro r h1 h2 h3 h4
   refine .still hI (v := .bool (r != neg)) ?_ (.p _ _ (.bool _))
   subst hop
   cases neg
   ·simp [Sem.run_bind, eqGuard_plain h1 h2, h3]
   ·simp [Sem.run_bind, eqGuard_plain h1 h2, h4]
  generalize hx : opd fr lx = ax at *
  generalize hy : opd fr ly = ay at *
  unfold eqNil at he
  split at he
  ·split at he <;> cases he
   rename_i hf; simp only [hf] at ht
   obtain ⟨e, ht⟩ := ht
   cases rx with | p _ _ rx => cases rx; cases ry with | p _ _ ry => cases ry; (
    exact fin true (by simp) (by simp) (binOp_eq_of rfl rfl (run_eqIn_ptr w 9999 ht none)).1 (binOp_eq_of rfl rfl (run_eqIn_ptr w 9999 ht none)).2)
  ·split at he <;> cases he
   rename_i hf; simp only [hf] at ht
   obtain ⟨e, ht⟩ := ht
   cases rx with | p _ _ rx => cases rx; cases ry with | p _ _ ry => cases ry; (
    exact fin false (by simp) (by simp) (binOp_eq_of rfl rfl (run_eqIn_ptr w 9999 ht (some _))).1 (binOp_eq_of rfl rfl (run_eqIn_ptr w 9999 ht (some _))).2)
  ·split at he
   ·split at he
    ·cases he
     rename_i e hk hc
     obtain ⟨hver, rfl⟩ := hc
     simp only [Bool.false_eq_true, if_false] at ht
     obtain ⟨el, ht⟩ := ht
     cases rx with
     | optr _ _ _ _ l v hl hv hh ho =>
      obtain ⟨g, cap, hp, rfl⟩ := hh (by rw [(hI.ent _ e l hk hl).ver]; exact hver.symm)
      cases ry with | p _ _ ry => cases ry; (
       exact fin false (by simp) (by simp) (binOp_eq_of rfl rfl (run_eqIn_ptr w 9999 ht (some _))).1 (binOp_eq_of rfl rfl (run_eqIn_ptr w 9999 ht (some _))).2)
    ·cases he
   ·cases he
  ·split at he <;> cases he
   rename_i hf; simp only [hf, if_true] at ht
   obtain ⟨a, b, v, ht⟩ := ht
   cases rx with | p _ _ rx => cases rx; cases ry with | p _ _ ry => cases ry; (
    exact fin true (by simp) (by simp) (binOp_eq_of rfl rfl (run_eqIn_nilfn w 9999 ht)).1 (binOp_eq_of rfl rfl (run_eqIn_nilfn w 9999 ht)).2)
  ·split at he <;> cases he
   rename_i hf; simp only [hf, if_true] at ht
   obtain ⟨a, b, v, ht⟩ := ht
   cases rx with | p _ _ rx => cases rx; cases ry with | p _ _ ry => cases ry; (
    exact fin false (by simp) (by simp) (binOp_eq_of rfl rfl (run_eqIn_fn w 9999 ht _ _ _)).1 (binOp_eq_of rfl rfl (run_eqIn_fn w 9999 ht _ _ _)).2)
  ·split at he <;> cases he
   rename_i hf; simp only [hf, if_true] at ht
   obtain ⟨a, b, v, ht⟩ := ht
   cases rx with | clo _ _ _ _ _ => cases ry with | p _ _ ry => cases ry; (
    exact fin false (by simp) (by simp) (binOp_eq_of rfl rfl (run_eqIn_fn w 9999 ht _ _ _)).1 (binOp_eq_of rfl rfl (run_eqIn_fn w 9999 ht _ _ _)).2)
  ·cases he
theorem un_ok {T : Tab} {c : Ctx} {H : Heap} {w : World} (hI : Inv base c H w) {fr : AFr} {op : UnOp} {lx : LOpd} {vx : Value} (rx : Rep c (opd fr lx) vx)
  {x : AVal} {H' : Heap} (h : evalOp T (.un op lx) fr H = some (x, H')) : Done P base (Op.unary op vx) c w x H' := by
 simp only [evalOp] at h
 cases hu : unV op (opd fr lx) with
 | none => rw [hu] at h; cases h
 | some p =>
  rw [hu] at h; cases h
  generalize hx : opd fr lx = ax at *
  unfold unV at hu
  split at hu
  ·split at hu <;> cases hu
   cases rx with | p _ _ rx => cases rx; exact .still hI (v := .bool (!_)) rfl (.p _ _ (.bool _))
  ·split at hu
   ·cases hu
    cases rx with | p _ _ rx => cases rx; exact .still hI (v := .int _ _) rfl (.p _ _ (.int _ _))
   ·simp only [binI] at hu
    cases hu
    cases rx with | p _ _ rx => cases rx; exact .still hI (v := .int _ _) rfl (.p _ _ (.int _ _))
   ·cases hu
  ·split at hu <;> cases hu
   cases rx with | p _ _ rx => cases rx; exact .still hI (v := .float _ _) rfl (.p _ _ (.flt _ _))
  ·split at hu <;> cases hu
   cases rx with | p _ _ rx => cases rx; exact .still hI (v := .complex _ _ _) rfl (.p _ _ (.cpx _ _ _))
  ·cases hu
theorem allP_rep {c : Ctx} {l : List AVal} {ps : List PVal} {vs : List Value} (h : allP l = some ps) (r : RepL c l vs) : vs.length = ps.length ∧ ∀ (j : Nat) x v, ps[j]? = some x → vs[j]? = some v → PRep c.prot x v := by
 have := allP_some h
 subst this
 refine ⟨by simpa using r.1, fun j x v h1 h2 => ?_⟩
 have := r.2 j (.p x) v (by simp [h1]) h2
 cases this; assumption
theorem mkf_ok {T : Tab} {c : Ctx} {H : Heap} {w : World} (hI : Inv base c H w) {fr : AFr} {f : FuncId} {caps : List LOpd} {vs : List Value} (rl : RepL c (caps.map (opd fr)) vs)
  {x : AVal} {H' : Heap} (h : evalOp T (.mkf f caps) fr H = some (x, H')) : Done P base (Instr.makeFunc (.func f) #[] vs.toArray) c w x H' := by
 simp only [evalOp] at h
 cases h
 refine .still hI (v := .func (.func f) #[] vs.toArray) rfl ?_
 unfold mkClo
 cases ha : allP (caps.map (opd fr)) with
 | none => exact .clo f _ vs rl.1 rl.2
 | some ps =>
  obtain ⟨h1, h2⟩ := allP_rep ha rl
  exact .p _ _ (.clo f ps vs h1 h2)
theorem nilc_ok {T : Tab} {c : Ctx} {H : Heap} {w : World} (hI : Inv base c H w) {fr : AFr} {lx : LOpd} {a : Act} {ox : Operand} {o : Oper} (ho : o.op = .nilCheck ox) (rx : Rep c (opd fr lx) (a.eval ox))
  {x : AVal} {H' : Heap} (h : evalOp T (.nilc lx) fr H = some (x, H')) : (execOp a.eval o).run P w = .ok (.value (a.eval ox)) w ∧ H' = H ∧ Rep c x (a.eval ox) := by
 simp only [evalOp] at h
 generalize hv : a.eval ox = vx at *
 split at h
 ·rename_i k ver i off hx
  rw [hx] at rx
  cases hk : H[k]? with
  | none => rw [hk] at h; cases h
  | some e =>
   rw [hk] at h
   simp only at h
   split at h
   case isFalse => cases h
   rename_i hver
   cases h
   cases rx with
   | optr _ _ _ _ l v hl hvv hh ho2 =>
    obtain ⟨g, cap, hp, rfl⟩ := hh (by rw [(hI.ent k e l hk hl).ver]; exact hver.symm)
    exact ⟨by simp [execOp, ho, hv], rfl, .optr _ _ _ _ l _ hl hvv hh ho2⟩
 ·rename_i l hx
  rw [hx] at rx
  cases h
  have := rx
  cases rx with | p _ _ rx => cases rx; exact ⟨by simp [execOp, ho, hv], rfl, this⟩
 ·rename_i f l hx
  rw [hx] at rx
  cases h
  have := rx
  cases rx with | p _ _ rx => cases rx; exact ⟨by simp [execOp, ho, hv], rfl, this⟩
 ·rename_i f l hx
  rw [hx] at rx
  cases h
  have := rx
  cases rx; exact ⟨by simp [execOp, ho, hv], rfl, this⟩
 ·cases h
theorem minmax_ok {T : Tab} {c : Ctx} {H : Heap} {w : World} (hI : Inv base c H w) {fr : AFr} {mx : Bool} {lx ly : LOpd} {vx vy : Value} (rx : Rep c (opd fr lx) vx) (ry : Rep c (opd fr ly) vy) {ts : Array TypeId} {ty : TypeId}
  {x : AVal} {H' : Heap} (h : evalOp T (.minmax mx lx ly) fr H = some (x, H')) : Done P base (if mx then Builtin.max_ ts ty #[vx, vy] else Builtin.min_ ts ty #[vx, vy]) c w x H' := by
 simp only [evalOp] at h
 split at h
 case h_2 => cases h
 rename_i k a k' b hx hy
 split at h
 case isFalse => cases h
 rename_i hk
 cases h
 subst hk
 rw [hx] at rx
 rw [hy] at ry
 cases rx with | p _ _ rx => cases rx; cases ry with | p _ _ ry => cases ry; (
  cases mx with
  | true => exact .still hI (v := .int k (if a < b then b else a)) (by simp [Builtin.max_, Builtin.max2]) (.p _ _ (.int _ _))
  | false => exact .still hI (v := .int k (if b < a then b else a)) (by simp [Builtin.min_, Builtin.min2]) (.p _ _ (.int _ _)))
theorem cpx_ok {T : Tab} {c : Ctx} {H : Heap} {w : World} (hI : Inv base c H w) {fr : AFr} {lx ly : LOpd} {vx vy : Value} (rx : Rep c (opd fr lx) vx) (ry : Rep c (opd fr ly) vy) {ts : Array TypeId} {ty : TypeId}
  {x : AVal} {H' : Heap} (h : evalOp T (.mkc lx ly) fr H = some (x, H')) : Done P base (Builtin.complex_ ts ty #[vx, vy]) c w x H' := by
 simp only [evalOp] at h
 split at h
 case h_2 => cases h
 rename_i k a k' b hx hy
 split at h
 case isFalse => cases h
 rename_i hk
 cases h
 subst hk
 rw [hx] at rx
 rw [hy] at ry
 cases rx with | p _ _ rx => cases rx; cases ry with | p _ _ ry => cases ry; exact .still hI (v := .complex k a b) (by show (if k = k then _ else _ : Sem Value).run P w = _; rw [if_pos rfl]; rfl) (.p _ _ (.cpx _ _ _))
theorem re_ok {T : Tab} {c : Ctx} {H : Heap} {w : World} (hI : Inv base c H w) {fr : AFr} {lx : LOpd} {vx : Value} (rx : Rep c (opd fr lx) vx) {ts : Array TypeId} {ty : TypeId}
  {x : AVal} {H' : Heap} (h : evalOp T (.re lx) fr H = some (x, H')) : Done P base (Builtin.real_ ts ty #[vx]) c w x H' := by
 simp only [evalOp] at h
 split at h
 case h_2 => cases h
 rename_i k a b hx
 cases h
 rw [hx] at rx
 cases rx with | p _ _ rx => cases rx; exact .still hI (v := .float k a) rfl (.p _ _ (.flt _ _))
theorem im_ok {T : Tab} {c : Ctx} {H : Heap} {w : World} (hI : Inv base c H w) {fr : AFr} {lx : LOpd} {vx : Value} (rx : Rep c (opd fr lx) vx) {ts : Array TypeId} {ty : TypeId}
  {x : AVal} {H' : Heap} (h : evalOp T (.im lx) fr H = some (x, H')) : Done P base (Builtin.imag_ ts ty #[vx]) c w x H' := by
 simp only [evalOp] at h
 split at h
 case h_2 => cases h
 rename_i k a b hx
 cases h
 rw [hx] at rx
 cases rx with | p _ _ rx => cases rx; exact .still hI (v := .float k b) rfl (.p _ _ (.flt _ _))
theorem toInt_ok {T : Tab} {c : Ctx} {H : Heap} {w : World} (hI : Inv base c H w) {fr : AFr} {s t : TypeId} {k0 k : IntKind} (hs : P.underlying s = some (.int k0)) (ht : P.underlying t = some (.int k)) {lx : LOpd} {vx : Value} (rx : Rep c (opd fr lx) vx)
  {x : AVal} {H' : Heap} (h : evalOp T (.conv (.toInt k) lx) fr H = some (x, H')) : Done P base (convert s t vx) c w x H' := by
 simp only [evalOp] at h
 cases hi : intOf? (opd fr lx) with
 | none => rw [hi] at h; cases h
 | some n =>
  rw [hi] at h; cases h
  obtain ⟨k1, rfl⟩ := intOf_some rx hi
  exact .still hI (v := .int k (k.wrap n)) (by simp [convert, run_underlying hs, run_underlying ht, Conv.intToInt]) (.p _ _ (.int _ _))
theorem same_ok {T : Tab} {c : Ctx} {H : Heap} {w : World} (hI : Inv base c H w) {fr : AFr} {s t : TypeId} (hs : P.underlying s = some .string) (ht : P.underlying t = some .string) {lx : LOpd} {vx : Value} (rx : Rep c (opd fr lx) vx)
  {x : AVal} {H' : Heap} (h : evalOp T (.conv .same lx) fr H = some (x, H')) : Done P base (convert s t vx) c w x H' := by
 simp only [evalOp] at h
 split at h
 case h_2 => cases h
 rename_i b hx
 cases h
 rw [hx] at rx
 have := rx
 cases rx with | p _ _ rx => cases rx; exact .still hI (v := .string _) (by simp [convert, run_underlying hs, run_underlying ht]) this
theorem run_eqIn_slice (w : World) (d : Nat) {t e : TypeId} (ht : P.underlying t = some (.slice e)) (a : Option Addr) (n cp : Nat) : (Op.equalIn (d + 1) t (.slice a n cp) (.slice none 0 0)).run P w = .ok a.isNone w := by
 cases a <;> simp only [Op.equalIn, Sem.run_bind, run_underlying ht, Result.andThen_ok] <;> rfl
theorem eqS_ok {T : Tab} {c : Ctx} {H : Heap} {w : World} (hI : Inv base c H w) {fr : AFr} {op : BinOp} {neg : Bool} (hop : op = if neg then .neq else .eql) {t e : TypeId} (ht : P.underlying t = some (.slice e)) {ox oy : Operand} {lx ly : LOpd} {vx : Value} (rx : Rep c (opd fr lx) vx)
  {x : AVal} {H' : Heap} (h : evalOp T (.eqS neg lx ly) fr H = some (x, H')) : Done P base (do eqGuard op t ox oy vx (.slice none 0 0); binOp op t vx (.slice none 0 0)) c w x H' := by
 have fin : ∀ (a : Option Addr) (n cp : Nat), ((do eqGuard op t ox oy (.slice a n cp) (.slice none 0 0); binOp op t (.slice a n cp) (.slice none 0 0) : Sem Value)).run P w = .ok (.bool (a.isNone != neg)) w := fun a n cp => by
  have b := binOp_eq_of (P := P) (w := w) (t := t) (x := .slice a n cp) (y := .slice none 0 0) (r := a.isNone) rfl rfl (run_eqIn_slice w 9999 ht a n cp)
  have g1 : ∀ cs, (Value.slice a n cp) ≠ .agg cs := by simp
  have g2 : (Value.slice a n cp) ≠ .nilIface := by simp
  subst hop
  cases neg
  ·simp [Sem.run_bind, eqGuard_plain g1 g2, b.1]
  ·simp [Sem.run_bind, eqGuard_plain g1 g2, b.2]
 simp only [evalOp] at h
 split at h
 case h_2 => cases h
 split at h
 ·rename_i hx
  cases h
  rw [hx] at rx
  cases rx with
  | p _ _ rx =>
  cases rx with
  | lst _ a len cap size blk off vals hl hc hm ha hs hp hr hk => exact .still hI (fin a len cap) (.anyb _)
 ·rename_i y ys hx
  cases h
  rw [hx] at rx
  cases rx with
  | p _ _ rx =>
  cases rx with
  | lst _ a len cap size blk off vals hl hc hm ha hs hp hr hk =>
   have ha' := ha (by simp)
   subst ha'
   exact .still hI (fin _ len cap) (by cases neg <;> exact .p _ _ (.bool _))
 ·rename_i y ys hx
  cases h
  rw [hx] at rx
  cases rx with
  | tight _ a n hn rx hz =>
  cases rx with
  | lst _ a len cap size blk off vals hl hc hm ha hs hp hr hk =>
   have ha' := ha (by simp)
   subst ha'
   exact .still hI (fin _ _ _) (by cases neg <;> exact .p _ _ (.bool _))
 ·rename_i hx
  cases h
  rw [hx] at rx
  cases rx with
  | tight _ a n hn rx hz =>
   have ha' := hz rfl
   subst ha'
   exact .still hI (fin _ _ _) (by cases neg <;> exact .p _ _ (.bool _))
 ·cases h
theorem freeze_heap (w : World) (g off n : Nat) (cur : Array Value) (ty : TypeId) (fr : Nat × Nat) (h : w.heap[g]? = some (.cells cur ty fr)) : ∃ fr', (w.freeze ⟨g, off, none⟩ n).heap[g]? = some (.cells cur ty fr') := by
 unfold World.freeze
 split
 ·exact ⟨fr, h⟩
 ·simp only [Array.getElem?_modify, if_true, h, Option.map_some]
  exact ⟨_, rfl⟩
theorem freeze_other (w : World) (g off n b : Nat) (h : b ≠ g) : (w.freeze ⟨g, off, none⟩ n).heap[b]? = w.heap[b]? := by
 unfold World.freeze
 split
 ·rfl
 ·simp only [Array.getElem?_modify]
  rw [if_neg (fun e => h e.symm)]
theorem freeze_size (w : World) (a : Addr) (n : Nat) : (w.freeze a n).heap.size = w.heap.size := by
 unfold World.freeze
 split <;> simp
theorem freeze_os (w : World) (a : Addr) (n : Nat) : (w.freeze a n).os = w.os ∧ (w.freeze a n).tape = w.tape ∧ (w.freeze a n).output = w.output := by
 unfold World.freeze
 split <;> exact ⟨rfl, rfl, rfl⟩
theorem Inv.kill {c : Ctx} {H : Heap} {w w' : World} (hI : Inv base c H w) {k : Nat} {e : Ent} {l : Loc} {g cap : Nat} (hk : H[k]? = some e) (hl : c.locs[k]? = some l) (hp : l.place = some (g, cap))
  (hos : w'.os = w.os) (ht : w'.tape = w.tape) (ho : w'.output = w.output) (hsz : w.heap.size ≤ w'.heap.size) (hblk : ∀ b, b < w.heap.size → b ≠ g → w'.heap[b]? = w.heap[b]?)
  (hg : ∀ cur ty fr, w.heap[g]? = some (.cells cur ty fr) → ∃ fr', w'.heap[g]? = some (.cells cur ty fr')) :
  ∃ c', Step c w c' w' ∧ Inv base c' (H.set k ⟨e.size, e.ver + 1, true, [], e.ty⟩) w' ∧ ∀ (n len : Nat) (v : Value) (ps : List PVal), Rep c (.own k 0 len e.ver) v → len = e.elems.length → mapO (resolveV H 0) e.elems = some ps → PRep c'.prot (.lst ps) v := by
 obtain ⟨c1, e1, s1, i1, p1⟩ := hI.freeze1 k
 have hkl : k < H.length := (List.getElem?_eq_some_iff.1 hk).1
 have he := hI.ent k e l hk hl
 have hl1 : c1.locs[k]? = some l := by rw [e1]; exact hl
 obtain ⟨cur, ty, a1, _⟩ := he.there g cap hp
 obtain ⟨hs, hi⟩ := i1.replace (w' := w') hl1 ⟨e.size, e.ver + 1, true, [], e.ty⟩ ⟨l.ver + 1, l.size, none⟩ hos ht ho hsz
  (fun b hb hn => hblk b hb (fun h => by subst h; exact hn cap hp)) (by simp) (fun h => by simp at h) (fun g cap h => by simp at h)
  (fun b o v hv => by
   have h0 := i1.prot b o v hv
   by_cases hb : b = g
   ·subst hb
    obtain ⟨fr', h1⟩ := hg cur ty (0, 0) a1
    rw [cell_of_row w' b o cur ty fr' h1]
    rw [cell_of_row w b o cur ty (0, 0) a1] at h0
    exact h0
   ·rw [cell_of_heap (hblk b (i1.prot_lt hv) hb)]; exact h0)
  ⟨by simp [he.ver], he.size, he.pos, by simp, fun _ => rfl, fun _ _ _ _ _ h => by simp at h, fun _ _ h => by simp at h⟩
 have hset : (Abs.freeze1 H k).set k ⟨e.size, e.ver + 1, true, [], e.ty⟩ = H.set k ⟨e.size, e.ver + 1, true, [], e.ty⟩ := by
  unfold Abs.freeze1
  rw [hk]
  simp
 rw [hset] at hi
 refine ⟨_, s1.trans hs, hi, fun n len v ps hr hlen hm => ?_⟩
 have hget : (Abs.freeze1 H k)[k]? = some ⟨e.size, e.ver, true, e.elems, e.ty⟩ := by
  unfold Abs.freeze1
  rw [hk]
  simp [hkl]
 have hm' : mapO (resolveV (Abs.freeze1 H k) 0) e.elems = some ps := by
  rw [← hm]
  congr 1
  funext x
  cases x <;> simp [resolveV]
 have hel : ∀ x ∈ e.elems, touchV (Abs.freeze1 H k) 0 x = [] := fun x hx => by
  obtain ⟨j, hj, rfl⟩ := List.getElem_of_mem hx
  obtain ⟨y, _, h2⟩ := (mapO_some hm').2 j _ (List.getElem?_eq_getElem hj)
  generalize e.elems[j] = z at h2
  cases z <;> simp [resolveV] at h2 <;> simp [touchV]
 refine resolve_ok i1 1 (.own k 0 len e.ver) v (.lst ps) (hr.step s1) ?_ (fun k' hk' => ?_)
 ·simp only [resolveV, hget]
  rw [if_pos ⟨trivial, by simp [hlen]⟩]
  simp [hlen, hm']
 ·simp only [touchV, hget, List.drop_zero, hlen, List.take_length, List.mem_cons, List.mem_flatMap] at hk'
  rcases hk' with rfl | ⟨x, hx, h2⟩
  ·intro e0 l0 g0 cap0 h1 h2 h3 o ho'
   have := p1 e l0 g0 cap0 hk h2 h3 o
   rw [hget] at h1
   cases h1
   exact this ho'
  ·rw [hel x hx] at h2; simp at h2
theorem mark_ok {T : Tab} {c : Ctx} {H : Heap} {w : World} (hI : Inv base c H w) {fr : AFr} {t e0 : TypeId} (ht : P.underlying t = some (.slice e0)) (he0 : P.underlying e0 = some (.int .u8)) {lx : LOpd} {vx : Value} (rx : Rep c (opd fr lx) vx)
  {x : AVal} {H' : Heap} (h : evalOp T (.conv .mark lx) fr H = some (x, H')) : Done P base (convert t t vx) c w x H' := by
 simp only [evalOp] at h
 split at h
 case h_2 => cases h
 rename_i k len ver hx
 rw [hx] at rx
 cases hk : H[k]? with
 | none => rw [hk] at h; cases h
 | some e =>
  rw [hk] at h
  simp only at h
  split at h
  case isFalse => cases h
  rename_i hc
  obtain ⟨hver, hlen, hpos⟩ := hc
  cases hm : mapO (resolveV H 0) e.elems with
  | none => rw [hm] at h; cases h
  | some ps =>
   rw [hm] at h
   cases h
   obtain ⟨l, hl, he, hv⟩ := own_val hI rx hk hver
   cases hp : l.place with
   | none =>
    have := he.nowhere hp
    rw [this] at hlen
    simp at hlen; omega
   | some q =>
    obtain ⟨g, cap⟩ := q
    simp only [OwnVal, hp] at hv
    obtain ⟨a, cp, rfl, q2, q3, q4, q5⟩ := hv
    obtain ⟨rfl, _⟩ := q5 (.inl hpos)
    obtain ⟨cur, ty, a1, _⟩ := he.there g cap hp
    have hrun : (convert t t (.slice (some ⟨g, 0 * l.size, none⟩) len cp)).run P w = .ok (.slice (some ⟨g, 0 * l.size, none⟩) len cp) (w.freeze ⟨g, cur.size, none⟩ 1) := by
     have hsh : w.shape? g = some (ty, cur.size) := by simp [World.shape?, a1]
     simp [convert, run_underlying ht, run_underlying he0, markStringish, hsh]
    obtain ⟨c', s', i', hr⟩ := hI.kill (w' := w.freeze ⟨g, cur.size, none⟩ 1) hk hl hp (freeze_os w _ _).1 (freeze_os w _ _).2.1 (freeze_os w _ _).2.2 (by rw [freeze_size]; exact Nat.le_refl _)
     (fun b _ hb => freeze_other w g _ 1 b hb) (fun cur' ty' fr' h => freeze_heap w g _ 1 cur' ty' fr' h)
    subst hver
    exact ⟨_, _, c', hrun, s', i', .p _ _ (hr 0 len _ ps rx hlen hm)⟩
end Go.Abs

/-
 ABS, part O: any operation; regions; code; functions.
-/
namespace Go.Abs
variable {P : Program} {base : Prot}
def After (P : Program) (base : Prot) (o : Oper) (a : Act) (c : Ctx) (w : World) (x : AVal) (H' : Heap) : Prop :=
 ∀ (next : Act → World → Prop) (Q : Exit → Act → World → Prop), (∀ v c' w', Step c w c' w' → Inv base c' H' w' → Rep c' x v → next (a.put o.dst v) w') → o.wp P a w next Q
theorem After.of_done {o : Oper} {a : Act} {c : Ctx} {w : World} {x : AVal} {H' : Heap} {s : Sem Value} (he : execOp a.eval o = (do let v ← s; pure (.value v))) (h : Done P base s c w x H') : After P base o a c w x H' := by
 intro next Q hn
 obtain ⟨v, w', c', hr, hs, hi, hrep⟩ := h
 unfold Oper.wp
 rw [he]
 simp only [Sem.run_bind, hr, Result.andThen_ok, Sem.run_pure]
 exact hn v c' w' hs hi hrep
theorem After.of_run {o : Oper} {a : Act} {c : Ctx} {w : World} {H : Heap} {x : AVal} {v : Value} (hI : Inv base c H w) (he : (execOp a.eval o).run P w = .ok (.value v) w) (hr : Rep c x v) : After P base o a c w x H := by
 intro next Q hn
 unfold Oper.wp
 rw [he]
 exact hn v c w (.refl _ _) hI hr
section
variable {gl : Nat → AVal} {n : Nat}
theorem arr_map {α β : Type} (l : Array α) (f : α → β) : l.map f = (l.toList.map f).toArray := by
 cases l; simp
theorem After.call {T : Tab} (hT : TabOk P base T) {c : Ctx} {H : Heap} {w : World} (hI : Inv base c H w) {o : Oper} {a : Act} {f : FuncId} {args : List AVal} {vs : List Value} (hr : RepL c args vs)
  (he : goodFn P f = true → (execOp a.eval o).run P w = .ok (.enter f vs.toArray) w) {x : AVal} {H' : Heap} (h : callF T f args H = some (x, H')) : After P base o a c w x H' := by
 intro next Q hn
 obtain ⟨hg, hc⟩ := callF_ok hT hI hr h
 unfold Oper.wp
 rw [he hg]
 refine hc.mono fun e w' ⟨v, c', he, hs, hi, hrep⟩ => ?_
 subst he
 exact hn v c' w' hs hi hrep
theorem callFunc_run {f : FuncId} (hg : goodFn P f = true) (args : Array Value) (w : World) : (callFunc f args).run P w = .ok (.enter f args) w := by
 unfold goodFn at hg
 cases hf : P.funcs[f]? with
 | none => rw [hf] at hg; cases hg
 | some fn =>
  rw [hf] at hg
  simp only [Bool.and_eq_true, Bool.not_eq_true'] at hg
  have h1 : ¬ fn.name = "runtime.NumGoroutine" := by simpa using hg.1
  have h2 : ¬ fn.body = none := fun h => by rw [h] at hg; simp at hg
  simp [callFunc, hf, h1, h2]
theorem isNilC_eq {o : Operand} (h : isNilC o = true) : o = .const (.slice none 0 0) := by
 unfold isNilC at h
 split at h
 ·rfl
 ·cases h
theorem After.ext {T : Tab} (hT : TabOk P base T) {c : Ctx} {H : Heap} {w : World} (hI : Inv base c H w) {o : Oper} {a : Act} {f : FuncId} {ps : List PVal} {vs : List Value} (hr : RepL c (ps.map .p) vs) {p : PVal} (h : T.ex f ps = some p)
  (he : execOp a.eval o = callFunc f vs.toArray) : After P base o a c w (.p p) H := by
 obtain ⟨fn, e, h1, h2, h3, h4, h5, h6⟩ := hT.ex f ps p h
 have hlen : vs.length = ps.length := by simpa using hr.1
 obtain ⟨v, hv, hp⟩ := h6 c.prot w vs hlen (fun j y u hy hu => by
  have := hr.2 j (.p y) u (by simp [hy]) hu
  cases this with | p _ _ h => exact h)
 refine .of_run hI (v := v) ?_ (.p _ _ hp)
 rw [he]
 have h2' : ¬ fn.name = "runtime.NumGoroutine" := by simpa using h2
 have h4' : Extern.findNext fn = none := by simpa using h4
 have h3' : fn.body = none := by simpa using h3
 simp [callFunc, h1, h2', h3', h4', h5, hv]
theorem op_sound {T : Tab} (hT : TabOk P base T) (hg : GlobOk base gl) {c : Ctx} {H : Heap} {w : World} (hI : Inv base c H w) {fr : AFr} {a : Act} (hs : Sim n c fr a) (o : Oper) {x : AVal} {H' : Heap}
  (h : evalOp T (lowOp P gl n o.op) fr H = some (x, H')) : After P base o a c w x H' := by
 have R := opd_ok hg hs hI.base
 have RL := opds_ok hg hs hI.base
 have bad : ∀ {x : AVal} {H' : Heap}, evalOp T .bad fr H = some (x, H') → False := fun h => by simp [evalOp] at h
 obtain ⟨dst, op, ty, pos, after, guard⟩ := o
 cases op <;> simp only [lowOp] at h
 case move y => simp only [evalOp] at h; cases h; exact .of_run hI rfl (R y)
 case assign y => simp only [evalOp] at h; cases h; exact .of_run hI rfl (R y)
 case pick cc y z =>
  simp only [evalOp] at h
  split at h
  case h_2 => cases h
  rename_i t hc
  cases h
  have rc := R cc
  rw [hc] at rc
  have hv : a.eval cc = .bool t := by
   generalize a.eval cc = v at rc
   cases rc with | p _ _ rc => cases rc; rfl
  cases t with
  | true => exact .of_run hI (v := a.eval y) (by simp [execOp, hv, asBool]) (R y)
  | false => exact .of_run hI (v := a.eval z) (by simp [execOp, hv, asBool]) (R z)
 case alloc e => exact .of_done rfl (alloc_ok hI h)
 case box e y => exact .of_done rfl (box_ok hI (R y) h)
 case build t parts =>
  split at h
  ·rename_i fields hu
   split at h
   ·rename_i hf
    have hd := build_ok (P := P) (base := base) (T := T) (t := t) hI (place := fun i => (fields.toList.map fun f => (f.offset, sizeT P f.type)).toArray[i]?) (parts := parts.toList.map fun (i, x) => match fields[i]? with | some f => (f.offset, sizeT P f.type, lowOpd gl n x) | none => (0, 0, .cst .junk))
     (mparts := parts.toList.map fun (i, x) => (i, a.eval x)) (by simp) (fun j p q h1 h2 => by
      simp only [List.getElem?_map] at h1 h2
      cases hj : parts.toList[j]? with
      | none => rw [hj] at h1; cases h1
      | some ix =>
       obtain ⟨i, y⟩ := ix
       rw [hj] at h1 h2
       simp only [Option.map_some, Option.some.injEq] at h1 h2
       subst h2
       cases hfi : fields[i]? with
       | none => rw [hfi] at h1; subst h1; exact ⟨.inr rfl, .junk _⟩
       | some f =>
        rw [hfi] at h1; subst h1
        refine ⟨.inl ?_, R y⟩
        have : fields.toList[i]? = some f := by simpa using hfi
        simp [this]) (fun inf z h1 h2 r hr => by
      unfold Program.built
      simp only [h1, hu, h2, places_ok hf]
      exact hr) h
    refine .of_done ?_ hd
    simp [execOp]
    rw [arr_map]
   ·exact absurd h (fun h => bad h)
  ·rename_i len e hu
   split at h
   ·rename_i hf
    obtain ⟨d, hd⟩ := Option.isSome_iff_exists.1 hf
    obtain ⟨ie, hie⟩ := isSome_info hd
    have hsz : sizeT P e = ie.size := by simp [sizeT, hd, hie]
    have hd := build_ok (P := P) (base := base) (T := T) (t := t) hI (place := fun i => some (i * sizeT P e, sizeT P e)) (parts := parts.toList.map fun (i, x) => (i * sizeT P e, sizeT P e, lowOpd gl n x))
     (mparts := parts.toList.map fun (i, x) => (i, a.eval x)) (by simp) (fun j p q h1 h2 => by
      simp only [List.getElem?_map] at h1 h2
      cases hj : parts.toList[j]? with
      | none => rw [hj] at h1; cases h1
      | some ix =>
       obtain ⟨i, y⟩ := ix
       rw [hj] at h1 h2
       simp only [Option.map_some, Option.some.injEq] at h1 h2
       subst h2; subst h1
       exact ⟨.inl rfl, R y⟩) (fun inf z h1 h2 r hr => by
      unfold Program.built
      simp only [h1, hu, h2, hie]
      rw [← hsz]
      exact hr) h
    refine .of_done ?_ hd
    simp [execOp]
    rw [arr_map]
   ·exact absurd h (fun h => bad h)
  ·exact absurd h (fun h => bad h)
 case buildSlice t len parts =>
  split at h
  ·rename_i e hu
   have hd := buildSl_ok (P := P) (base := base) (T := T) hI hu (parts := parts.toList.map fun (i, x) => (i, lowOpd gl n x)) (mparts := parts.toList.map fun (i, x) => (i, a.eval x)) (by simp) (fun j p q h1 h2 => by
      simp only [List.getElem?_map] at h1 h2
      cases hj : parts.toList[j]? with
      | none => rw [hj] at h1; cases h1
      | some ix =>
       obtain ⟨i, y⟩ := ix
       rw [hj] at h1 h2
       simp only [Option.map_some, Option.some.injEq] at h1 h2
       subst h2; subst h1
       exact ⟨rfl, R y⟩) h
   refine .of_done ?_ hd
   simp [execOp]
   rw [arr_map]
  ·exact absurd h (fun h => bad h)
 case load t y =>
  split at h
  case isFalse => exact absurd h (fun h => bad h)
  rename_i hd
  obtain ⟨d, hd⟩ := Option.isSome_iff_exists.1 hd
  exact .of_done rfl (load_ok hI hd (R y) h)
 case store t y z =>
  split at h
  case isFalse => exact absurd h (fun h => bad h)
  rename_i hd
  obtain ⟨d, hd⟩ := Option.isSome_iff_exists.1 hd
  obtain ⟨w', c', h1, h2, h3, rfl⟩ := store_ok hI hd (R y) (R z) h
  intro next Q hn
  unfold Oper.wp
  have : (execOp a.eval ⟨dst, .store t y z, ty, pos, after, guard⟩).run P w = .ok .skip w' := by
   simp [execOp, h1]
  rw [this]
  exact hn undef c' w' h2 h3 (.p _ _ (.tup [] [] rfl (by simp)))
 case nilCheck y =>
  obtain ⟨h1, rfl, h2⟩ := nilc_ok (o := ⟨dst, .nilCheck y, ty, pos, after, guard⟩) hI rfl (R y) h
  exact .of_run hI h1 h2
 case binOp op t y z yt =>
  split at h
  · -- ==
   split at h
   ·rename_i h1; exact .of_done rfl (eqB_ok (ox := y) (oy := z) hI (neg := false) rfl h1 (R y) (R z) h)
   ·exact .of_done rfl (bin_ok (ox := y) (oy := z) hI (R y) (R z) h)
   ·exact .of_done rfl (bin_ok (ox := y) (oy := z) hI (R y) (R z) h)
   ·exact .of_done rfl (bin_ok (ox := y) (oy := z) hI (R y) (R z) h)
   ·split at h
    ·rename_i ks h1; exact .of_done rfl (eqA_ok (ox := y) (oy := z) hI (neg := false) rfl h1 (R y) (R z) h)
    ·split at h
     ·rename_i e h1; exact .of_done rfl (eqN_ok (ox := y) (oy := z) hI (neg := false) (fn := false) rfl ⟨e, h1⟩ (R y) (R z) h)
     ·rename_i x1 x2 x3 h1; exact .of_done rfl (eqN_ok (ox := y) (oy := z) hI (neg := false) (fn := true) rfl ⟨_, _, _, h1⟩ (R y) (R z) h)
     ·rename_i e h1
      split at h
      ·rename_i hz
       have hz' := isNilC_eq hz
       subst hz'
       exact .of_done rfl (eqS_ok (ox := y) (oy := .const (.slice none 0 0)) hI (neg := false) rfl h1 (R y) h)
      ·exact absurd h (fun h => bad h)
     ·exact absurd h (fun h => bad h)
  ·split at h
   ·rename_i h1; exact .of_done rfl (eqB_ok (ox := y) (oy := z) hI (neg := true) rfl h1 (R y) (R z) h)
   ·exact .of_done rfl (bin_ok (ox := y) (oy := z) hI (R y) (R z) h)
   ·exact .of_done rfl (bin_ok (ox := y) (oy := z) hI (R y) (R z) h)
   ·exact .of_done rfl (bin_ok (ox := y) (oy := z) hI (R y) (R z) h)
   ·split at h
    ·rename_i ks h1; exact .of_done rfl (eqA_ok (ox := y) (oy := z) hI (neg := true) rfl h1 (R y) (R z) h)
    ·split at h
     ·rename_i e h1; exact .of_done rfl (eqN_ok (ox := y) (oy := z) hI (neg := true) (fn := false) rfl ⟨e, h1⟩ (R y) (R z) h)
     ·rename_i x1 x2 x3 h1; exact .of_done rfl (eqN_ok (ox := y) (oy := z) hI (neg := true) (fn := true) rfl ⟨_, _, _, h1⟩ (R y) (R z) h)
     ·rename_i e h1
      split at h
      ·rename_i hz
       have hz' := isNilC_eq hz
       subst hz'
       exact .of_done rfl (eqS_ok (ox := y) (oy := .const (.slice none 0 0)) hI (neg := true) rfl h1 (R y) h)
      ·exact absurd h (fun h => bad h)
     ·exact absurd h (fun h => bad h)
  ·exact .of_done rfl (bin_ok (ox := y) (oy := z) hI (R y) (R z) h)
 case unOp op t y => exact .of_done rfl (un_ok hI (R y) h)
 case convert s t y =>
  split at h
  ·rename_i h1 h2; exact .of_done rfl (toInt_ok hI h1 h2 (R y) h)
  ·rename_i h1 h2; exact .of_done rfl (same_ok hI h1 h2 (R y) h)
  ·rename_i e h1 h2
   split at h
   ·rename_i h3; exact .of_done rfl (s2b_ok hI h1 h2 h3 (R y) h)
   ·exact absurd h (fun h => bad h)
  ·rename_i e0 e h1 h2
   split at h
   ·rename_i hst
    subst hst
    split at h
    ·rename_i h3; exact .of_done rfl (mark_ok hI h2 h3 (R y) h)
    ·exact absurd h (fun h => bad h)
   ·exact absurd h (fun h => bad h)
  ·rename_i e h1 h2
   split at h
   ·rename_i h3; exact .of_done rfl (b2s_ok hI h1 h2 h3 (R y) h)
   ·exact absurd h (fun h => bad h)
  ·exact absurd h (fun h => bad h)
 case makeFunc fn first caps =>
  split at h
  ·rename_i f
   split at h
   ·rename_i h1
    have e1 : first = #[] := Array.eq_empty_of_size_eq_zero h1
    subst e1
    have := mkf_ok (P := P) (f := f) hI (RL caps.toList) h
    refine .of_done ?_ this
    simp [execOp]
    rw [arr_map]
   ·exact absurd h (fun h => bad h)
  ·exact absurd h (fun h => bad h)
 case makeSlice t l cc =>
  split at h
  ·rename_i e h1; exact .of_done rfl (mksl_ok hI h1 (R l) (R cc) h)
  ·exact absurd h (fun h => bad h)
 case slice t y lo hi mx =>
  have rep : ∀ (o : Option Operand) x v, o.map (lowOpd gl n) = some x → o.map a.eval = some v → Rep c (opd fr x) v := fun o x v h1 h2 => by
   cases o with
   | none => cases h1
   | some o => simp at h1 h2; subst h1; subst h2; exact R o
  split at h
  ·rename_i h1
   split at h
   ·rename_i h2
    have : mx = none := by cases mx with | none => rfl | some v => simp at h2
    subst this
    exact .of_done rfl (slStr_ok hI h1 (R y) (by simp) (by simp) (rep lo) (rep hi) h)
   ·exact absurd h (fun h => bad h)
  ·rename_i e h1
   split at h
   ·exact absurd h (fun h => bad h)
   ·rename_i h2
    exact .of_done rfl (slSl_ok hI h1 h2 (R y) (by simp) (by simp) (by simp) (rep lo) (rep hi) (rep mx) h)
  ·exact absurd h (fun h => bad h)
 case fieldAddr t y f =>
  split at h
  ·rename_i fields h1
   split at h
   ·rename_i g h2
    split at h
    ·exact absurd h (fun h => bad h)
    ·rename_i h3; exact .of_done rfl (fadr_ok hI h1 h2 h3 (R y) h)
   ·exact absurd h (fun h => bad h)
  ·exact absurd h (fun h => bad h)
 case field t y f =>
  split at h
  ·rename_i fields h1
   split at h
   ·rename_i g h2
    split at h
    ·rename_i h3
     obtain ⟨d, hd⟩ := Option.isSome_iff_exists.1 h3
     exact .of_done rfl (fld_ok hI h1 h2 hd (R y) h)
    ·exact absurd h (fun h => bad h)
   ·exact absurd h (fun h => bad h)
  ·exact absurd h (fun h => bad h)
 case indexAddr t y i =>
  split at h
  ·rename_i e h1
   split at h
   ·exact absurd h (fun h => bad h)
   ·rename_i h2; exact .of_done rfl (iadr_ok hI h1 h2 (R y) (R i) h)
  ·rename_i len e h1
   split at h
   ·exact absurd h (fun h => bad h)
   ·rename_i h2; exact .of_done rfl (iaadr_ok hI h1 h2 (R y) (R i) h)
  ·exact absurd h (fun h => bad h)
 case index t y i =>
  split at h
  ·rename_i h1; exact .of_done rfl (istr_ok hI h1 (R y) (R i) h)
  ·rename_i len e h1
   split at h
   ·rename_i h2
    obtain ⟨d, hd⟩ := Option.isSome_iff_exists.1 h2
    exact .of_done rfl (iarr_ok hI h1 hd (R y) (R i) h)
   ·exact absurd h (fun h => bad h)
  ·exact absurd h (fun h => bad h)
 case extract y i => exact .of_done rfl (ext_ok hI (R y) h)
 case call cl =>
  obtain ⟨callee, args, argTypes⟩ := cl
  simp only at h
  split at h
  ·rename_i o
   split at h
   ·rename_i f
    split at h
    ·rename_i hgf
     simp only [evalOp] at h
     refine .call hT hI (RL args.toList) (fun _ => ?_) h
     have e0 : a.eval (.func f) = .func (.func f) #[] #[] := rfl
     rw [← arr_map]
     simp [execOp, resolve, Deferred.ofValue, invoke, e0, callFunc_run hgf]
    ·simp only [evalOp] at h
     cases hps : allP ((args.toList.map (lowOpd gl n)).map (opd fr)) with
     | none => rw [hps] at h; cases h
     | some ps =>
      rw [hps] at h
      simp only at h
      cases hx : T.ex f ps with
      | none => rw [hx] at h; cases h
      | some p =>
       rw [hx] at h
       cases h
       have hr := RL args.toList
       rw [allP_some hps] at hr
       refine .ext hT hI hr hx ?_
       have e0 : a.eval (.func f) = .func (.func f) #[] #[] := rfl
       rw [← arr_map]
       simp [execOp, resolve, Deferred.ofValue, invoke, e0]
   · -- a function value
    simp only [evalOp] at h
    have ro := R o
    split at h
    ·rename_i f caps hx
     rw [hx] at ro
     generalize hv : a.eval o = vo at ro
     cases ro with
     | p _ _ ro =>
      cases ro with
      | clo _ _ cs hl hr =>
       refine .call hT hI ((RL args.toList).append (PRep.toRep hl hr)) (fun hgf => ?_) h
       rw [← List.append_toArray, ← arr_map]
       simp [execOp, resolve, Deferred.ofValue, invoke, hv, callFunc_run hgf]
    ·rename_i f caps hx
     rw [hx] at ro
     generalize hv : a.eval o = vo at ro
     cases ro with
     | clo _ _ cs hl hr =>
      refine .call hT hI ((RL args.toList).append ⟨hl, hr⟩) (fun hgf => ?_) h
      rw [← List.append_toArray, ← arr_map]
      simp [execOp, resolve, Deferred.ofValue, invoke, hv, callFunc_run hgf]
    ·cases h
  · -- a builtin
   rename_i b
   have two : ∀ (l : List Operand), args.toList = l → args = l.toArray := fun l h => by rw [← h]
   have typ : ∀ (l : List TypeId), argTypes.toList = l → argTypes = l.toArray := fun l h => by rw [← h]
   unfold lowBuiltin at h
   split at h
   · -- one operand
    rename_i y hl
    have ha := two _ hl
    subst ha
    have ex : ∀ s : Sem Value, (∀ consts, builtin b argTypes ty consts #[a.eval y] = (do let v ← s; pure (.value v))) → execOp a.eval ⟨dst, .call ⟨.builtin b, [y].toArray, argTypes⟩, ty, pos, after, guard⟩ = (do let v ← s; pure (.value v)) := fun s hb => by simp [execOp, resolve, invoke, hb]
    unfold lowBuiltin1 at h
    split at h
    · -- len
     split at h
     ·rename_i t ht
      split at h
      ·rename_i hu
       exact .of_done (ex _ (fun _ => rfl)) (lenS_ok (ty := ty) hI hu (R y) ht h)
      ·rename_i e hu
       exact .of_done (ex _ (fun _ => rfl)) (len_ok (ty := ty) hI hu (R y) ht h)
      ·exact absurd h (fun h => bad h)
     ·exact absurd h (fun h => bad h)
    ·exact .of_done (ex _ (fun _ => rfl)) (re_ok (ts := argTypes) (ty := ty) hI (R y) h)
    ·exact .of_done (ex _ (fun _ => rfl)) (im_ok (ts := argTypes) (ty := ty) hI (R y) h)
    · -- clear
     split at h
     ·rename_i t htl
      have ht2 := typ _ htl
      subst ht2
      split at h
      ·rename_i e hu
       split at h
       ·rename_i hz
        exact .of_done (ex _ (fun _ => rfl)) (clr_ok (ty := ty) hI hu hz.2.2 hz.1 hz.2.1 (R y) h)
       ·exact absurd h (fun h => bad h)
      ·exact absurd h (fun h => bad h)
     ·exact absurd h (fun h => bad h)
    ·exact absurd h (fun h => bad h)
   ·rename_i y z hl
    have ha := two _ hl
    subst ha
    have ex : ∀ s : Sem Value, (∀ consts, builtin b argTypes ty consts #[a.eval y, a.eval z] = (do let v ← s; pure (.value v))) → execOp a.eval ⟨dst, .call ⟨.builtin b, [y, z].toArray, argTypes⟩, ty, pos, after, guard⟩ = (do let v ← s; pure (.value v)) := fun s hb => by simp [execOp, resolve, invoke, hb]
    unfold lowBuiltin2 at h
    split at h
    · -- append
     split at h
     ·rename_i t u htl
      split at h
      ·rename_i e hu
       have ht2 := typ _ htl
       subst ht2
       split at h
       ·rename_i hz
        split at h
        ·rename_i htu
         subst htu
         exact .of_done (ex _ (fun _ => rfl)) (app_ok (ty := ty) hI hu hz.1 hz.2 (R y) (R z) h)
        ·split at h
         ·rename_i hus
          split at h
          ·rename_i hs1
           exact .of_done (ex _ (fun _ => rfl)) (appS_ok (ty := ty) hI hu hus hs1 hz.1 hz.2 (R y) (R z) h)
          ·exact absurd h (fun h => bad h)
         ·exact absurd h (fun h => bad h)
       ·exact absurd h (fun h => bad h)
      ·exact absurd h (fun h => bad h)
     ·exact absurd h (fun h => bad h)
    · -- copy
     split at h
     ·rename_i t u htl
      split at h
      ·rename_i htu
       subst htu
       have ht2 := typ _ htl
       subst ht2
       split at h
       ·rename_i e hu
        split at h
        ·exact absurd h (fun h => bad h)
        ·rename_i hz
         exact .of_done (ex _ (fun _ => rfl)) (cpy_ok (ty := ty) hI hu hz (R y) (R z) h)
       ·exact absurd h (fun h => bad h)
      ·exact absurd h (fun h => bad h)
     ·exact absurd h (fun h => bad h)
    ·have := minmax_ok (P := P) (mx := true) (ts := argTypes) (ty := ty) hI (R y) (R z) h
     exact .of_done (ex _ (fun _ => rfl)) this
    ·have := minmax_ok (P := P) (mx := false) (ts := argTypes) (ty := ty) hI (R y) (R z) h
     exact .of_done (ex _ (fun _ => rfl)) this
    ·exact .of_done (ex _ (fun _ => rfl)) (cpx_ok (ts := argTypes) (ty := ty) hI (R y) (R z) h)
    ·exact absurd h (fun h => bad h)
   ·exact absurd h (fun h => bad h)
  ·exact absurd h (fun h => bad h)
 all_goals exact absurd h (fun h => bad h)
end
end Go.Abs
namespace Go.Abs
variable {P : Program} {base : Prot}
section
variable {gl : Nat → AVal} {n : Nat}
theorem Sim.step {c c' : Ctx} {w w' : World} (h : Step c w c' w') {fr : AFr} {a : Act} (s : Sim n c fr a) : Sim n c' fr a := ⟨s.1, fun i hi => (s.2 i hi).step h⟩
theorem Sim.put {c : Ctx} {fr : AFr} {a : Act} (s : Sim n c fr a) {x : AVal} {v : Value} (r : Rep c x v) (d : Option Nat) : Sim n c (Abs.put fr d x) (a.put d v) := by
 cases d with
 | none => exact s
 | some d =>
  refine ⟨by simp [Act.put, s.1], fun i hi => ?_⟩
  simp only [Abs.put, upd, Act.put]
  have hs : i < a.tmps.size := by rw [s.1]; exact hi
  by_cases hid : i = d
  ·subst hid
   rw [if_pos rfl]
   have : (a.tmps.setIfInBounds i v).getD i undef = v := by simp [Array.getD, hs]
   rw [this]; exact r
  ·rw [if_neg hid]
   have : (a.tmps.setIfInBounds d v).getD i undef = a.tmps.getD i undef := by
    simp [Array.getD, hs]
    rw [Array.getElem_setIfInBounds_ne hs (Ne.symm hid)]
   rw [this]; exact s.2 i hi
theorem put_defers (a : Act) (d : Option Nat) (v : Value) : (a.put d v).defers = a.defers := by cases d <;> rfl
theorem oper_sound {T : Tab} (hT : TabOk P base T) (hg : GlobOk base gl) (ops : Array Oper) {k : Nat} {o : Oper} (h0 : ops[k]? = some o) {c : Ctx} {H : Heap} {w : World} (hI : Inv base c H w) {fr : AFr} {a : Act} (hs : Sim n c fr a) {x : AVal} {H1 : Heap}
  (hev : evalV T (lowOper P gl n ops o) fr H = some (x, H1)) (K : Act → World → Prop) (Q : Exit → Act → World → Prop) (hK : ∀ v c' w', Step c w c' w' → Inv base c' H1 w' → Rep c' x v → K (a.put o.dst v) w') : wpOp P ops Q k K a w := by
 have run : evalOp T (lowOp P gl n o.op) fr H = some (x, H1) → o.wp P a w K Q := fun hx => op_sound hT hg hI hs o hx _ _ hK
 have skip : x = .p (.tup []) → H1 = H → K (a.put o.dst undef) w := fun hx hH => by
  subst hx; subst hH
  exact hK undef c w (.refl _ _) hI (.p _ _ (.tup [] [] rfl (by simp)))
 unfold wpOp
 simp only [h0]
 unfold lowOper at hev
 cases hgd : o.guard with
 | none =>
  simp only [hgd, lowGuard, evalV] at hev
  rw [if_pos (by simp [Region.wanted, hgd])]
  exact .inl (run hev)
 | some jw =>
  obtain ⟨j, want⟩ := jw
  simp only [hgd, lowGuard] at hev
  cases hb : (ops[j]?).bind (·.dst) with
  | none => rw [hb] at hev; simp [evalV, evalOp] at hev
  | some s =>
   rw [hb] at hev
   simp only at hev
   split at hev
   case h_2 => simp [evalV, evalOp] at hev
   rename_i g hgl
   split at hgl
   case isFalse => cases hgl
   rename_i hsn
   cases hgl
   have hss : s < a.tmps.size := by rw [hs.1]; exact hsn
   have hrep := hs.2 s hsn
   have hget : a.tmps.getD s undef = a.tmps[s] := by simp [Array.getD, hss]
   rw [hget] at hrep
   have hy : yielded ops a.tmps j = match a.tmps[s] with | .bool b => some b | _ => none := by
    unfold yielded
    rw [hb]
    simp only [Option.bind_some, Array.getElem?_eq_getElem hss]
    cases a.tmps[s] <;> rfl
   simp only [evalV] at hev
   split at hev
   ·rename_i b hfs
    rw [hfs] at hrep
    have hv : a.tmps[s] = .bool b := by
     generalize a.tmps[s] = v at hrep
     cases hrep with | p _ _ hp => cases hp; rfl
    rw [hv] at hy
    simp only at hy
    split at hev
    ·rename_i hbw
     subst hbw
     rw [if_pos (by simp [Region.wanted, hgd, hy])]
     exact .inl (run hev)
    ·rename_i hbw
     simp only [Option.some.injEq, Prod.mk.injEq] at hev
     obtain ⟨h1, h2⟩ := hev
     rw [if_neg (by simp [Region.wanted, hgd, hy, hbw])]
     exact skip h1.symm h2.symm
   ·rename_i b hfs
    rw [hfs] at hrep
    have hv : ∃ vs, a.tmps[s] = .tuple vs := by
     generalize a.tmps[s] = v at hrep
     cases hrep with | p _ _ hp => cases hp; exact ⟨_, rfl⟩
    obtain ⟨vs, hv⟩ := hv
    rw [hv] at hy
    simp only at hy
    simp only [Option.some.injEq, Prod.mk.injEq] at hev
    obtain ⟨h1, h2⟩ := hev
    rw [if_neg (by simp [Region.wanted, hgd, hy])]
    exact skip h1.symm h2.symm
   ·cases hev
theorem ops_sound {T : Tab} (hT : TabOk P base T) (hg : GlobOk base gl) (ops : Array Oper) (Q : Exit → Act → World → Prop) : ∀ (l : List Oper) (k : Nat), (∀ j : Nat, l[j]? = ops[k + j]?) → ∀ (c : Ctx) (H : Heap) (w : World) (fr : AFr) (a : Act) (fr' : AFr) (H' : Heap),
  Inv base c H w → Sim n c fr a → evalL T (l.map (lowOper P gl n ops)) fr H = some (fr', H') →
  (∀ c' w' a', Step c w c' w' → Inv base c' H' w' → Sim n c' fr' a' → a'.defers = a.defers → Q .normal a' w') → wpOps P ops Q (List.range' k l.length) a w
 | [], k, _, c, H, w, fr, a, fr', H', hI, hs, he, hq => by
  simp [evalL] at he
  obtain ⟨rfl, rfl⟩ := he
  exact hq c w a (.refl _ _) hI hs rfl
 | o :: l, k, hl, c, H, w, fr, a, fr', H', hI, hs, he, hq => by
  have h0 : ops[k]? = some o := by simpa using (hl 0).symm
  have hl' : ∀ j : Nat, l[j]? = ops[k + 1 + j]? := fun j => by
   have := hl (j + 1)
   rw [Nat.add_assoc, Nat.add_comm 1 j]
   simpa using this
  simp only [List.map_cons, evalL] at he
  cases hev : evalV T (lowOper P gl n ops o) fr H with
  | none => rw [hev] at he; cases he
  | some r =>
   obtain ⟨x, H1⟩ := r
   rw [hev] at he
   simp only at he
   have hdst : (lowOper P gl n ops o).dst = o.dst := by unfold lowOper; split <;> rfl
   rw [hdst] at he
   simp only [List.length_cons, List.range'_succ, wpOps_cons]
   refine oper_sound hT hg ops h0 hI hs hev _ _ (fun v c' w' s' i' r' => ?_)
   exact ops_sound hT hg ops Q l (k + 1) hl' c' H1 w' _ _ fr' H' i' ((hs.step s').put r' o.dst) he (fun c2 w2 a2 s2 i2 m2 d2 => hq c2 w2 a2 (s'.trans s2) i2 m2 (d2.trans (put_defers _ _ _)))
end
end Go.Abs

/-
 ABS, part O (draws): a region that draws its order may be evaluated in the order of the text.
-/
namespace Go.Abs
variable {P : Program} {base : Prot}
def Agree (l : List Nat) (fr fr' : AFr) : Prop := ∀ i ∈ l, fr i = fr' i
theorem opd_agree {fr fr' : AFr} {x : LOpd} (h : Agree (slotOf x) fr fr') : opd fr x = opd fr' x := by
 cases x with
 | tmp t => exact h t (by simp [slotOf])
 | cst y => rfl
theorem Agree.left {a b : List Nat} {fr fr' : AFr} (h : Agree (a ++ b) fr fr') : Agree a fr fr' := fun i hi => h i (List.mem_append.2 (.inl hi))
theorem Agree.right {a b : List Nat} {fr fr' : AFr} (h : Agree (a ++ b) fr fr') : Agree b fr fr' := fun i hi => h i (List.mem_append.2 (.inr hi))
theorem optI_agree {fr fr' : AFr} {d : Nat} {x : Option LOpd} (h : Agree (optSlots x) fr fr') : optI fr d x = optI fr' d x := by
 cases x with
 | none => rfl
 | some x => simp only [optI]; rw [opd_agree (x := x) h]
theorem map_agree {fr fr' : AFr} {l : List LOpd} (h : Agree (l.flatMap slotOf) fr fr') : l.map (opd fr) = l.map (opd fr') :=
 List.map_congr_left fun x hx => opd_agree fun i hi => h i (List.mem_flatMap.2 ⟨x, hx, hi⟩)
theorem fillA_agree {fr fr' : AFr} : ∀ (parts : List (Nat × Nat × LOpd)) (cells : List AVal), Agree (parts.flatMap fun p => slotOf p.2.2) fr fr' → fillA (opd fr) cells parts = fillA (opd fr') cells parts
 | [], _, _ => rfl
 | (off, size, x) :: r, cells, h => by
  have h1 : opd fr x = opd fr' x := opd_agree fun i hi => h i (List.mem_flatMap.2 ⟨_, List.mem_cons_self .., hi⟩)
  have h2 : Agree (r.flatMap fun p => slotOf p.2.2) fr fr' := fun i hi => h i (by obtain ⟨p, hp, hq⟩ := List.mem_flatMap.1 hi; exact List.mem_flatMap.2 ⟨p, List.mem_cons_of_mem _ hp, hq⟩)
  simp only [fillA, h1, fillA_agree r _ h2]
theorem fillS_agree {fr fr' : AFr} {size : Nat} : ∀ (parts : List (Nat × LOpd)) (es : List AVal), Agree (parts.flatMap fun p => slotOf p.2) fr fr' → fillS (opd fr) size es parts = fillS (opd fr') size es parts
 | [], _, _ => rfl
 | (i, x) :: r, es, h => by
  have h1 : opd fr x = opd fr' x := opd_agree fun j hj => h j (List.mem_flatMap.2 ⟨_, List.mem_cons_self .., hj⟩)
  have h2 : Agree (r.flatMap fun p => slotOf p.2) fr fr' := fun i hi => h i (by obtain ⟨p, hp, hq⟩ := List.mem_flatMap.1 hi; exact List.mem_flatMap.2 ⟨p, List.mem_cons_of_mem _ hp, hq⟩)
  simp only [fillS, h1, fillS_agree r _ h2]
theorem evalOp_agree {T : Tab} {fr fr' : AFr} {H : Heap} (o : LOp) (h : Agree (readsOp o) fr fr') : evalOp T o fr H = evalOp T o fr' H := by
 cases o <;> simp only [readsOp] at h <;> simp only [evalOp]
 case mov x => rw [opd_agree h]
 case pick c a b => rw [opd_agree h.left.left, opd_agree h.left.right, opd_agree h.right]
 case newv s x => rw [opd_agree h]
 case build z parts => rw [fillA_agree parts _ h]
 case buildSl s z l parts => rw [fillS_agree parts _ h]
 case load n ag a => rw [opd_agree h]
 case store n a x => rw [opd_agree h.left, opd_agree h.right]
 case nilc x => rw [opd_agree h]
 case bin op x y => rw [opd_agree h.left, opd_agree h.right]
 case eqB n x y => rw [opd_agree h.left, opd_agree h.right]
 case eqA n k x y => rw [opd_agree h.left, opd_agree h.right]
 case eqN n k x y => rw [opd_agree h.left, opd_agree h.right]
 case eqS n x y => rw [opd_agree h.left, opd_agree h.right]
 case calle f args => rw [map_agree h]
 case appS b t x y => rw [opd_agree h.left, opd_agree h.right]
 case un op x => rw [opd_agree h]
 case conv k x => rw [opd_agree h]
 case mkf f caps => rw [map_agree h]
 case mksl s b z l c => rw [opd_agree h.left, opd_agree h.right]
 case slStr x lo hi => rw [opd_agree h.left.left, optI_agree h.left.right]; simp only [optI_agree h.right]
 case slSl s x lo hi mx =>
  have h4 : ∀ m, mx = some m → opd fr m = opd fr' m := fun m hm => by subst hm; exact opd_agree h.right
  rw [opd_agree h.left.left.left, optI_agree h.left.left.right]
  simp only [optI_agree h.left.right]
  cases mx with
  | none => rfl
  | some m => simp only [h4 m rfl]
 case fadr o x => rw [opd_agree h]
 case fld o n ag x => rw [opd_agree h]
 case iadr s x i => rw [opd_agree h.left, opd_agree h.right]
 case iaadr l s x i => rw [opd_agree h.left, opd_agree h.right]
 case istr x i => rw [opd_agree h.left, opd_agree h.right]
 case iarr l s ag x i => rw [opd_agree h.left, opd_agree h.right]
 case ext x i => rw [opd_agree h]
 case call f args => rw [map_agree h]
 case callv x args => rw [opd_agree h.left, map_agree h.right]
 case lenS x => rw [opd_agree h]
 case len x => rw [opd_agree h]
 case app s b x y => rw [opd_agree h.left, opd_agree h.right]
 case cpy s x y => rw [opd_agree h.left, opd_agree h.right]
 case clr s z x => rw [opd_agree h]
 case minmax m x y => rw [opd_agree h.left, opd_agree h.right]
 case re x => rw [opd_agree h]
 case im x => rw [opd_agree h]
 case mkc x y => rw [opd_agree h.left, opd_agree h.right]
theorem evalV_agree {T : Tab} {fr fr' : AFr} {H : Heap} (o : LOper) (h : Agree (readsO o) fr fr') : evalV T o fr H = evalV T o fr' H := by
 unfold evalV
 unfold readsO at h
 cases hg : o.guard with
 | none => simp only; exact evalOp_agree _ h.left
 | some sw =>
  obtain ⟨s, want⟩ := sw
  rw [hg] at h
  have hs : fr s = fr' s := h.right s (by simp)
  simp only [hs, evalOp_agree o.op h.left]
theorem put_agree {fr : AFr} {d : Option Nat} {v : AVal} {l : List Nat} (h : (match d with | some d => l.contains d | none => false) = false) : Agree l (put fr d v) fr := by
 intro i hi
 cases d with
 | none => rfl
 | some d =>
  simp only [put, upd]
  split
  ·rename_i hid; subst hid; simp at h; exact absurd hi h
  ·rfl
theorem put_comm' (fr : AFr) (d e : Option Nat) (v u : AVal) (h : ¬ (d.isSome = true ∧ d = e)) : put (put fr d v) e u = put (put fr e u) d v := by
 cases d with
 | none => rfl
 | some d =>
  cases e with
  | none => rfl
  | some e =>
   have hne : d ≠ e := fun h' => h ⟨rfl, by rw [h']⟩
   funext i
   simp only [put, upd]
   by_cases h1 : i = e
   ·by_cases h2 : i = d
    ·omega
    ·simp [h1]; omega
   ·simp [h1]
theorem apartO_spec {x y : LOper} (h : apartO x y = true) : (match x.dst with | some d => (readsO y).contains d | none => false) = false ∧ (match y.dst with | some d => (readsO x).contains d | none => false) = false ∧ ¬ (x.dst.isSome = true ∧ x.dst = y.dst) := by
 unfold apartO dstIn at h
 simp only [Bool.and_eq_true, Bool.not_eq_true', Bool.and_eq_false_iff, beq_eq_false_iff_ne] at h
 obtain ⟨⟨h1, h2⟩, h3⟩ := h
 refine ⟨h1, h2, fun ⟨h4, h5⟩ => ?_⟩
 rcases h3 with h3 | h3
 ·rw [h4] at h3; cases h3
 ·exact h3 h5
section
variable {gl : Nat → AVal} {n : Nat} (ops : Array Oper)
theorem low_dst (P : Program) (gl : Nat → AVal) (n : Nat) (ops : Array Oper) (o : Oper) : (lowOper P gl n ops o).dst = o.dst := by unfold lowOper; split <;> rfl
def stA (P : Program) (gl : Nat → AVal) (n : Nat) (T : Tab) (H : Heap) (ops : Array Oper) (i : Nat) (K : AFr → Prop) (fr : AFr) : Prop :=
 match ops[i]? with
 | none => K fr
 | some o => ∃ x, evalV T (lowOper P gl n ops o) fr H = some (x, H) ∧ K (put fr o.dst x)
def anyA (P : Program) (gl : Nat → AVal) (n : Nat) (T : Tab) (H : Heap) (ops : Array Oper) (Q : AFr → Prop) : Nat → Array Bool → AFr → Prop
 | 0, listed, fr => Region.ready .any ops listed = [] ∧ Q fr
 | m + 1, listed, fr => (Region.ready .any ops listed = [] → Q fr) ∧ ∀ i ∈ Region.ready .any ops listed, stA P gl n T H ops i (anyA P gl n T H ops Q m (listed.setIfInBounds i true)) fr
theorem stA_mono {T : Tab} {H : Heap} {i : Nat} {K K' : AFr → Prop} (h : ∀ fr, K fr → K' fr) {fr : AFr} (hh : stA P gl n T H ops i K fr) : stA P gl n T H ops i K' fr := by
 unfold stA at *
 split
 ·rename_i ho; rw [ho] at hh; exact h _ hh
 ·rename_i o ho; rw [ho] at hh; obtain ⟨x, h1, h2⟩ := hh; exact ⟨x, h1, h _ h2⟩
theorem wpAny_of_anyA {ds : List Deferred} {T : Tab} (hT : TabOk P base T) (hg : GlobOk base gl) {H : Heap} {Q : AFr → Prop} {Q' : Exit → Act → World → Prop} {c : Ctx} {w : World} (hQ : ∀ fr c' w' a', Step c w c' w' → Inv base c' H w' → Sim n c' fr a' → a'.defers = ds → Q fr → Q' .normal a' w') :
  ∀ (m : Nat) (listed : Array Bool) (fr : AFr) (c1 : Ctx) (w1 : World) (a1 : Act), Step c w c1 w1 → Inv base c1 H w1 → Sim n c1 fr a1 → a1.defers = ds → anyA P gl n T H ops Q m listed fr → wpAny P .any ops Q' m listed a1 w1
 | 0, _, fr, c1, w1, a1, hs, hi, hm, hd, h => ⟨h.1, hQ fr c1 w1 a1 hs hi hm hd h.2⟩
 | m + 1, listed, fr, c1, w1, a1, hs, hi, hm, hd, h => by
  refine ⟨fun h0 => hQ fr c1 w1 a1 hs hi hm hd (h.1 h0), fun i hir => ?_⟩
  have hst := h.2 i hir
  unfold stA at hst
  cases ho : ops[i]? with
  | none =>
   rw [ho] at hst
   unfold wpOp
   rw [ho]
   exact wpAny_of_anyA hT hg hQ m _ fr c1 w1 a1 hs hi hm hd hst
  | some o =>
   rw [ho] at hst
   obtain ⟨x, h1, h2⟩ := hst
   refine oper_sound hT hg ops ho hi hm h1 _ _ (fun v c' w' s' i' r' => ?_)
   exact wpAny_of_anyA hT hg hQ m _ _ c' w' _ (hs.trans s') i' ((hm.step s').put r' o.dst) ((put_defers _ _ _).trans hd) h2
theorem stA_put {T : Tab} {H : Heap} {j : Nat} {oi oj : Oper} {v : AVal} (hj : ops[j]? = some oj) (hap : apartO (lowOper P gl n ops oi) (lowOper P gl n ops oj) = true) {K : AFr → Prop} {fr : AFr}
  (hy : evalV T (lowOper P gl n ops oi) fr H = some (v, H)) (h : stA P gl n T H ops j K (put fr oi.dst v)) :
  stA P gl n T H ops j (fun fr' => evalV T (lowOper P gl n ops oi) fr' H = some (v, H) ∧ K (put fr' oi.dst v)) fr := by
 obtain ⟨h1, h2, h3⟩ := apartO_spec hap
 rw [low_dst] at h1 h2
 rw [low_dst, low_dst] at h3
 unfold stA at *
 rw [hj] at h ⊢
 obtain ⟨u, hu, hk⟩ := h
 rw [evalV_agree _ (put_agree h1)] at hu
 refine ⟨u, hu, ?_, ?_⟩
 ·rw [evalV_agree _ (put_agree h2)]; exact hy
 ·rw [← put_comm' fr oi.dst oj.dst v u h3]; exact hk
theorem anyA_first {T : Tab} {H : Heap} {Q : AFr → Prop} {i : Nat} {oi : Oper} {v : AVal} (hi : ops[i]? = some oi) :
  ∀ (m : Nat) (listed : Array Bool) (fr : AFr),
   (∀ j oj, ops[j]? = some oj → j ≠ i → listed.getD j true = false → (∀ e ∈ oj.after, Region.binds .any e = true → e.on ≠ i) → apartO (lowOper P gl n ops oi) (lowOper P gl n ops oj) = true) →
   i ∈ Region.ready .any ops listed → evalV T (lowOper P gl n ops oi) fr H = some (v, H) →
   anyA P gl n T H ops Q m (listed.setIfInBounds i true) (put fr oi.dst v) → anyA P gl n T H ops Q (m + 1) listed fr := by
 intro m
 induction m with
 | zero =>
  intro listed fr _ hr hy hh
  refine ⟨fun h => (by rw [h] at hr; cases hr), fun j hj => ?_⟩
  by_cases hji : j = i
  ·subst hji; unfold stA; rw [hi]; exact ⟨v, hy, hh⟩
  ·have := ready_mono hj hji
   rw [hh.1] at this
   cases this
 | succ m ih =>
  intro listed fr hfree hr hy hh
  refine ⟨fun h => (by rw [h] at hr; cases hr), fun j hj => ?_⟩
  by_cases hji : j = i
  ·subst hji; unfold stA; rw [hi]; exact ⟨v, hy, hh⟩
  ·have h1 := hh.2 j (ready_mono hj hji)
   obtain ⟨hjun, oj, hoj, hall⟩ := mem_ready.1 hj
   have hnot : ∀ e ∈ oj.after, Region.binds .any e = true → e.on ≠ i := fun e he hb heq => by
    have h1 := hall e he hb
    have h0 := (mem_ready.1 hr).1
    rw [heq] at h1
    rcases Nat.lt_or_ge i listed.size with h' | h'
    ·simp [h'] at h0 h1; rw [h0] at h1; cases h1
    ·simp [Array.getElem?_eq_none h'] at h1
   have h2 := stA_put ops hoj (hfree j oj hoj hji hjun hnot) hy h1
   have hfree' : ∀ k ok, ops[k]? = some ok → k ≠ i → (listed.setIfInBounds j true).getD k true = false →
     (∀ e ∈ ok.after, Region.binds .any e = true → e.on ≠ i) → apartO (lowOper P gl n ops oi) (lowOper P gl n ops ok) = true := fun k ok hk hki hun hno => by
    refine hfree k ok hk hki ?_ hno
    by_cases hjk : j = k
    ·subst hjk; exact hjun
    ·rw [getD_set_ne true hjk] at hun; exact hun
   refine stA_mono ops (fun fr' h3 => ih (listed.setIfInBounds j true) fr' hfree' (ready_mono hr (Ne.symm hji)) h3.1 ?_) h2
   rw [Array.setIfInBounds_comm _ _ hji]
   exact h3.2
theorem freeAt_spec {listed : Array Bool} {k : Nat} {ok : Oper} (hk : ops[k]? = some ok) (h : freeAt P gl n ops listed k = true) : ∀ j oj, ops[j]? = some oj → j ≠ k → listed.getD j true = false → (∀ e ∈ oj.after, Region.binds .any e = true → e.on ≠ k) →
  apartO (lowOper P gl n ops ok) (lowOper P gl n ops oj) = true := by
 intro j oj hj hjk hun hno
 unfold freeAt at h
 have hlt : j < ops.size := (Array.getElem?_eq_some_iff.1 hj).1
 have := List.all_eq_true.1 h j (List.mem_range.2 hlt)
 rw [hj, hk] at this
 simp only [Option.map_some, Option.getD_some, Bool.or_eq_true, beq_iff_eq] at this
 rcases this with ((h1 | h1) | h1) | h1
 ·exact absurd h1 hjk
 ·rw [hun] at h1; cases h1
 ·rw [← Array.any_toList, List.any_eq_true] at h1
  obtain ⟨e, he, h2⟩ := h1
  simp only [Bool.and_eq_true, beq_iff_eq] at h2
  exact absurd h2.2 (hno e (by simpa using he) h2.1)
 ·exact h1
theorem anyA_lex {T : Tab} {H : Heap} {Q : AFr → Prop} : ∀ (l : List Oper) (k : Nat) (listed : Array Bool) (fr : AFr), (∀ j : Nat, l[j]? = ops[k + j]?) → lexOk P gl n ops l.length k listed = true →
  evalD T H Q (l.map (lowOper P gl n ops)) fr → anyA P gl n T H ops Q l.length listed fr
 | [], _, listed, fr, _, hB, h => ⟨by simpa [lexOk] using hB, h⟩
 | o :: l, k, listed, fr, hl, hB, h => by
  have h0 : ops[k]? = some o := by simpa using (hl 0).symm
  simp only [List.length_cons, lexOk, Bool.and_eq_true] at hB
  obtain ⟨⟨hr, hf⟩, hB'⟩ := hB
  simp only [List.map_cons, evalD] at h
  cases hev : evalV T (lowOper P gl n ops o) fr H with
  | none => rw [hev] at h; exact h.elim
  | some r =>
   obtain ⟨x, H'⟩ := r
   rw [hev] at h
   simp only at h
   obtain ⟨rfl, h2⟩ := h
   rw [low_dst] at h2
   exact anyA_first ops h0 l.length listed fr (freeAt_spec ops h0 hf) (by simpa using hr) hev
    (anyA_lex l (k + 1) _ _ (fun j => by have := hl (j + 1); simpa [Nat.add_assoc, Nat.add_comm 1 j] using this) hB' h2)
end
end Go.Abs

/-
 ABS, part O (draws and writes): a region that draws its order and turns own arrays.
-/
namespace Go.Abs
variable {P : Program} {base : Prot}
theorem pure_map {T : Tab} {o : LOp} (hp : pureOp o = true) {fr : AFr} (H : Heap) : evalOp T o fr H = (evalOp T o fr []).map fun p => (p.1, H) := by
 cases o <;> simp only [pureOp, Bool.false_eq_true] at hp <;> simp only [evalOp]
 all_goals first
  | rfl
  | (split <;> first | rfl | (split <;> first | rfl | (split <;> first | rfl | (split <;> rfl))))
theorem pure_free {T : Tab} {o : LOp} (hp : pureOp o = true) {fr : AFr} {H H' : Heap} {x : AVal} (h : evalOp T o fr H = some (x, H')) : H' = H ∧ ∀ H2, evalOp T o fr H2 = some (x, H2) := by
 rw [pure_map hp H] at h
 cases h0 : evalOp T o fr [] with
 | none => rw [h0] at h; cases h
 | some p =>
  rw [h0] at h
  cases h
  exact ⟨rfl, fun H2 => by rw [pure_map hp H2, h0]; rfl⟩
theorem reader_free {T : Tab} {o : LOp} (hp : readerOp o = true) {fr : AFr} {H H' : Heap} {x : AVal} (h : evalOp T o fr H = some (x, H')) :
  H' = H ∧ ∀ H2 : Heap, (∀ k ∈ touched fr o, H2[k]? = H[k]?) → evalOp T o fr H2 = some (x, H2) := by
 have key : ∀ H2 : Heap, (∀ k ∈ touched fr o, H2[k]? = H[k]?) → evalOp T o fr H2 = (evalOp T o fr H).map fun p => (p.1, H2) := by
  intro H2 hk
  cases o <;> simp only [readerOp, Bool.false_eq_true] at hp <;> simp only [touched] at hk <;> simp only [evalOp]
  case load n ag a =>
   split
   ·rename_i k ver i off ha
    rw [ha] at hk
    rw [hk k (by simp [idxOf])]
    repeat' (first | rfl | split)
   ·repeat' (first | rfl | split)
   ·rfl
  case nilc a =>
   split
   ·rename_i k ver i off ha
    rw [ha] at hk
    rw [hk k (by simp [idxOf])]
    repeat' (first | rfl | split)
   all_goals rfl
  case fadr o a =>
   split
   ·rename_i k ver i off ha
    rw [ha] at hk
    rw [hk k (by simp [idxOf])]
    repeat' (first | rfl | split)
   ·repeat' (first | rfl | split)
   ·rfl
  case iadr s a i =>
   split
   ·split
    ·rename_i k off len ver ha
     rw [ha] at hk
     rw [hk k (by simp [idxOf])]
     repeat' (first | rfl | split)
    all_goals repeat' (first | rfl | split)
   ·rfl
  case iaadr l s a i =>
   split
   ·split
    ·rename_i k off len ver ha
     rw [ha] at hk
     rw [hk k (by simp [idxOf])]
     repeat' (first | rfl | split)
    all_goals repeat' (first | rfl | split)
   ·rfl
  case slSl s a lo hi mx =>
   split
   ·rename_i k off len ver ha
    rw [ha] at hk
    split
    all_goals
     rw [hk k (by simp [idxOf])]
     repeat' (first | rfl | split)
   all_goals repeat' (first | rfl | split)
  case len a =>
   have : lenOf? H2 (opd fr a) = lenOf? H (opd fr a) := by
    cases ha : opd fr a with
    | own k off len ver =>
     rw [ha] at hk
     simp only [lenOf?]
     rw [hk k (by simp [idxOf])]
    | p y => cases y <;> rfl
    | _ => rfl
   rw [this]
   split <;> rfl
 have h1 := key H (fun _ _ => rfl)
 rw [h] at h1
 have : H' = H := by simpa using h1
 subst this
 refine ⟨rfl, fun H2 hk => ?_⟩
 rw [key H2 hk, h]
 rfl
theorem touched_agree {fr fr' : AFr} (o : LOp) (h : Agree (readsOp o) fr fr') : touched fr o = touched fr' o := by
 cases o <;> simp only [touched] <;> simp only [readsOp] at h
 case load n ag a => rw [opd_agree h]
 case nilc x => rw [opd_agree h]
 case fadr o x => rw [opd_agree h]
 case iadr s x i => rw [opd_agree h.left]
 case iaadr l s x i => rw [opd_agree h.left]
 case len x => rw [opd_agree h]
 case slSl s x lo hi mx => rw [opd_agree h.left.left.left]
theorem pureV {T : Tab} {o : LOper} (hp : pureOp o.op = true) {fr : AFr} {H H' : Heap} {x : AVal} (h : evalV T o fr H = some (x, H')) : H' = H ∧ ∀ H2, evalV T o fr H2 = some (x, H2) := by
 unfold evalV at h ⊢
 cases hg : o.guard with
 | none => rw [hg] at h; exact pure_free hp h
 | some sw =>
  obtain ⟨s, want⟩ := sw
  rw [hg] at h
  simp only at h ⊢
  split at h
  ·rename_i b hb
   split at h
   ·rename_i hw; simp only [hw, if_true] at *; exact pure_free hp h
   ·rename_i hw; cases h; refine ⟨rfl, fun H2 => ?_⟩; simp [hw]
  ·rename_i hb; cases h; exact ⟨rfl, fun H2 => rfl⟩
  ·cases h
theorem readerV {T : Tab} {o : LOper} (hp : readerOp o.op = true) {fr : AFr} {H H' : Heap} {x : AVal} (h : evalV T o fr H = some (x, H')) :
  H' = H ∧ ∀ H2 : Heap, (∀ k ∈ touched fr o.op, H2[k]? = H[k]?) → evalV T o fr H2 = some (x, H2) := by
 unfold evalV at h ⊢
 cases hg : o.guard with
 | none => rw [hg] at h; exact reader_free hp h
 | some sw =>
  obtain ⟨s, want⟩ := sw
  rw [hg] at h
  simp only at h ⊢
  split at h
  ·rename_i b hb
   split at h
   ·rename_i hw; simp only [hw, if_true] at *; exact reader_free hp h
   ·rename_i hw; cases h; refine ⟨rfl, fun H2 _ => ?_⟩; simp [hw]
  ·rename_i hb; cases h; exact ⟨rfl, fun H2 _ => rfl⟩
  ·cases h
theorem sideW_agree {W : List Nat} {N : Nat} {o : LOper} {fr fr' : AFr} {H H' : Heap} (h : Agree (readsO o) fr fr') (s : sideW W N o fr H H') : sideW W N o fr' H H' := by
 unfold sideW at *
 unfold readsO at h
 rw [touched_agree o.op h.left] at s
 exact s
theorem newAt_spec {k : Nat} {op : LOp} {fr : AFr} {H H' : Heap} {x : AVal} (h : newAt k op fr H = some (x, H')) :
  ∃ size ty lx e, op = .newv size ty lx ∧ ((opd fr lx).cells.length = size ∧ 0 < size ∧ (opd fr lx).cells.all AVal.isCell = true) ∧ H[k]? = some e ∧ e.elems = [] ∧ x = .optr k (e.ver + 1) 0 0 ∧ H' = H.set k ⟨size, e.ver + 1, false, [opd fr lx], ty⟩ := by
 unfold newAt at h
 split at h
 case h_2 => cases h
 rename_i size ty lx
 split at h
 case isFalse => cases h
 rename_i hc
 split at h
 case h_2 => cases h
 rename_i e he
 split at h
 case isFalse => cases h
 rename_i hem
 cases h
 exact ⟨size, ty, lx, e, rfl, hc, he, List.isEmpty_iff.1 hem, rfl, rfl⟩
theorem newAt_at {k : Nat} {fr : AFr} {H : Heap} {size : Nat} {ty : TypeId} {lx : LOpd} {e : Ent} (hc : (opd fr lx).cells.length = size ∧ 0 < size ∧ (opd fr lx).cells.all AVal.isCell = true) (he : H[k]? = some e) (hem : e.elems = []) :
  newAt k (.newv size ty lx) fr H = some (.optr k (e.ver + 1) 0 0, H.set k ⟨size, e.ver + 1, false, [opd fr lx], ty⟩) := by
 simp only [newAt]
 rw [if_pos hc, he]
 simp only
 rw [if_pos (List.isEmpty_iff.2 hem)]
theorem evalX_agree {T : Tab} {N : Nat} {fl : Fl} {o : LOper} {fr fr' : AFr} (h : Agree (readsO o) fr fr') (H : Heap) : evalX T N fl o fr H = evalX T N fl o fr' H := by
 cases fl with
 | f => exact evalV_agree o h
 | s => exact evalV_agree o h
 | t => exact evalV_agree o h
 | c R => exact evalV_agree o h
 | n r =>
  show newAt _ _ _ _ = newAt _ _ _ _
  unfold newAt
  cases ho : o.op <;> try rfl
  rename_i size ty lx
  have : opd fr lx = opd fr' lx := by
   unfold readsO at h
   rw [ho] at h
   exact opd_agree h.left
  simp only [this]
theorem condW_agree {T : Tab} {W : List Nat} {N : Nat} {fl : Fl} {o : LOper} {fr fr' : AFr} {H H' : Heap} {x : AVal} (h : Agree (readsO o) fr fr') (s : condW T W N fl o fr H x H') : condW T W N fl o fr' H x H' := by
 cases fl with
 | f => exact trivial
 | s => exact sideW_agree h s
 | t => exact fun G => by rw [← evalV_agree o h]; exact s G
 | c R => exact ⟨s.1, sideW_agree h s.2.1, fun M hM => by rw [← evalV_agree o h]; exact s.2.2 M hM⟩
 | n r => exact trivial
section
variable {gl : Nat → AVal} {n : Nat} {b : Bool} (ops : Array Oper)
theorem flag_n {i : Nat} {r : Nat} (h : flagOf P gl n b ops i = .n r) : b = true ∧ freshAt P gl n ops i = true ∧ r = rankOf P gl n ops i := by
 unfold flagOf at h
 split at h
 ·rename_i hc
  simp only [Bool.and_eq_true] at hc
  cases h
  exact ⟨hc.1, hc.2, rfl⟩
 ·split at h
  ·cases h
  ·split at h
   ·cases h
   ·split at h <;> cases h
theorem flag_c {i : Nat} {R : Nat} (h : flagOf P gl n b ops i = .c R) : b = true ∧ R = rankOf P gl n ops ops.size ∧ ∃ o, ops[i]? = some o ∧ callOp (lowOper P gl n ops o).op = true := by
 unfold flagOf at h
 split at h
 ·cases h
 ·split at h
  ·cases h
  ·split at h
   ·rename_i hc
    simp only [Bool.and_eq_true] at hc
    cases h
    refine ⟨hc.1, rfl, ?_⟩
    have h1 := hc.2
    unfold openTo at h1
    obtain ⟨j, _, hj⟩ := List.any_eq_true.1 h1
    simp only [Bool.and_eq_true] at hj
    cases hi : ops[i]? with
    | none => rw [hi] at hj; simp at hj
    | some o =>
     cases hjj : ops[j]? with
     | none => rw [hi, hjj] at hj; simp at hj
     | some oj =>
      rw [hi, hjj] at hj
      simp only [Bool.and_eq_true] at hj
      exact ⟨o, rfl, hj.2.1.1.1⟩
   ·split at h <;> cases h
theorem call_not {o : LOper} (h : callOp o.op = true) : pureOp o.op = false ∧ readerOp o.op = false ∧ appO o = false ∧ freshO o = false := by
 unfold appO freshO
 generalize o.op = op at h
 cases op <;> first | (simp [callOp] at h; done) | exact ⟨rfl, rfl, rfl, rfl⟩
theorem mid_self {N R : Nat} {H : Heap} (h : N + R ≤ H.length) : midH N R H ((H.drop N).take R) = H := by
 unfold midH
 have e : H.drop (N + R) = (H.drop N).drop R := by rw [List.drop_drop]
 rw [e, List.append_assoc, List.take_append_drop, List.take_append_drop]
theorem mid_len {N R : Nat} {H M : Heap} (h : N + R ≤ H.length) (hM : M.length = R) : (midH N R H M).length = H.length := by
 unfold midH
 simp [hM]
 omega
theorem mid_mid {N R : Nat} {H M M' : Heap} (h : N + R ≤ H.length) (hM : M.length = R) : midH N R (midH N R H M) M' = midH N R H M' := by
 have hN : (H.take N).length = N := by simp; omega
 unfold midH
 congr 1
 ·congr 1
  rw [List.append_assoc, List.take_append_of_le_length (by omega), List.take_of_length_le (by omega)]
 ·rw [List.drop_append, List.drop_of_length_le (by simp; omega)]
  simp [hN, hM]
theorem mid_get {N R r : Nat} {H M : Heap} (h : N + R ≤ H.length) (hM : M.length = R) (hr : r < R) : (midH N R H M)[N + r]? = M[r]? := by
 have hN : (H.take N).length = N := by simp; omega
 unfold midH
 rw [List.append_assoc, List.getElem?_append_right (by omega), hN, List.getElem?_append_left (by omega)]
 congr 1
 omega
theorem mid_set {N R r : Nat} {H M : Heap} {e : Ent} (h : N + R ≤ H.length) (hM : M.length = R) (hr : r < R) : (midH N R H M).set (N + r) e = midH N R H (M.set r e) := by
 have hN : (H.take N).length = N := by simp; omega
 unfold midH
 rw [List.append_assoc, List.append_assoc, List.set_append_right _ _ (by omega), hN, List.set_append_left _ _ (by omega)]
 congr 3
 omega
theorem mid_of {N R : Nat} {H : Heap} (h : N + R ≤ H.length) : ((H.drop N).take R).length = R := by simp; omega
theorem rank_lt {i j : Nat} (hij : i < j) (h : freshAt P gl n ops i = true) : rankOf P gl n ops i < rankOf P gl n ops j := by
 unfold rankOf
 have e : List.range j = List.range i ++ (List.range (j - i)).map (i + ·) := by
  have := List.range_add (n := i) (m := j - i)
  rw [show i + (j - i) = j by omega] at this
  exact this
 rw [e, List.countP_append]
 have hm : 0 < ((List.range (j - i)).map (i + ·)).countP (freshAt P gl n ops) := List.countP_pos_iff.2 ⟨i, List.mem_map.2 ⟨0, List.mem_range.2 (by omega), by simp⟩, h⟩
 omega
theorem rank_ne {i j : Nat} (hij : i ≠ j) (hi : freshAt P gl n ops i = true) (hj : freshAt P gl n ops j = true) : rankOf P gl n ops i ≠ rankOf P gl n ops j := by
 rcases Nat.lt_or_gt_of_ne hij with h | h
 ·exact Nat.ne_of_lt (rank_lt ops h hi)
 ·exact Nat.ne_of_gt (rank_lt ops h hj)
theorem evalX_plain {T : Tab} {N : Nat} {fl : Fl} {o : LOper} {fr : AFr} {H : Heap} (h : ∀ r, fl ≠ .n r) : evalX T N fl o fr H = evalV T o fr H := by
 cases fl with
 | n r => exact absurd rfl (h r)
 | _ => rfl
def stB (P : Program) (gl : Nat → AVal) (n : Nat) (b : Bool) (T : Tab) (W : List Nat) (N : Nat) (ops : Array Oper) (i : Nat) (K : AFr → Heap → Prop) (fr : AFr) (H : Heap) : Prop :=
 match ops[i]? with
 | none => K fr H
 | some o => ∃ x H', evalX T N (flagOf P gl n b ops i) (lowOper P gl n ops o) fr H = some (x, H') ∧ condW T W N (flagOf P gl n b ops i) (lowOper P gl n ops o) fr H x H' ∧ K (put fr o.dst x) H'
def anyB (P : Program) (gl : Nat → AVal) (n : Nat) (b : Bool) (T : Tab) (W : List Nat) (N : Nat) (ops : Array Oper) (Q : AFr → Heap → Prop) : Nat → Array Bool → AFr → Heap → Prop
 | 0, listed, fr, H => Region.ready .any ops listed = [] ∧ Q fr H
 | m + 1, listed, fr, H => (Region.ready .any ops listed = [] → Q fr H) ∧ ∀ i ∈ Region.ready .any ops listed, stB P gl n b T W N ops i (anyB P gl n b T W N ops Q m (listed.setIfInBounds i true)) fr H
theorem stB_mono {T : Tab} {W : List Nat} {N : Nat} {i : Nat} {K K' : AFr → Heap → Prop} (h : ∀ fr H, K fr H → K' fr H) {fr : AFr} {H : Heap} (hh : stB P gl n b T W N ops i K fr H) : stB P gl n b T W N ops i K' fr H := by
 unfold stB at *
 split
 ·rename_i ho; rw [ho] at hh; exact h _ _ hh
 ·rename_i o ho; rw [ho] at hh; obtain ⟨x, H', h1, hs, h2⟩ := hh; exact ⟨x, H', h1, hs, h _ _ h2⟩
theorem Inv.putNew {c : Ctx} {H : Heap} {w : World} (hI : Inv base c H w) {k : Nat} {e0 : Ent} (hk : H[k]? = some e0) {x : AVal} {v : Value} (r : Rep c x v) {size : Nat} (hlen : x.cells.length = size) (hpos : 0 < size) (hkc : x.cells.all AVal.isCell = true) (ty : TypeId) :
  ∃ c', Step c w c' (w.alloc (.cells v.cells ty)) ∧ Inv base c' (H.set k ⟨size, e0.ver + 1, false, [x], ty⟩) (w.alloc (.cells v.cells ty)) ∧ Rep c' (.optr k (e0.ver + 1) 0 0) (.pointer (some ⟨w.heap.size, 0, none⟩)) := by
 have hg2 := (Grew.refl w).alloc (.cells v.cells ty)
 have hc := r.cells (all_isCell hkc)
 have hsize : v.cells.size = size := by have := hc.1.1; simp at this; omega
 have hkl : k < H.length := (List.getElem?_eq_some_iff.1 hk).1
 have hkc' : k < c.locs.length := by rw [hI.len]; exact hkl
 obtain ⟨l0, hl0, hver0⟩ : ∃ l, c.locs[k]? = some l ∧ l.ver = e0.ver := ⟨_, List.getElem?_eq_getElem hkc', (hI.ent k e0 _ hk (List.getElem?_eq_getElem hkc')).ver⟩
 have hnew : (w.alloc (.cells v.cells ty)).heap[w.heap.size]? = some (.cells v.cells ty (0, 0)) := heap_alloc_new _ _
 have hs : Step c w ⟨c.locs.set k ⟨e0.ver + 1, size, some (w.heap.size, 1)⟩, c.prot⟩ (w.alloc (.cells v.cells ty)) := by
  refine ⟨fun _ _ _ h => h, fun j l h => ?_, hg2.os, hg2.tape, hg2.output, hg2.size, fun b hb _ => hg2.blk b hb, fun b hb => ?_, fun _ _ _ h => .inl h⟩
  ·by_cases hj : k = j
   ·subst hj
    rw [hl0] at h; cases h
    exact ⟨⟨e0.ver + 1, size, some (w.heap.size, 1)⟩, by simp [hkc'], by simp [hver0], fun e => absurd e (by simp [hver0])⟩
   ·exact ⟨l, by rw [List.getElem?_set_ne hj]; exact h, Nat.le_refl _, fun _ => rfl⟩
  ·obtain ⟨j, l, cp, h1, h2⟩ := hb
   by_cases hj : k = j
   ·subst hj
    simp [hkc'] at h1
    subst h1
    simp at h2
    right; omega
   ·simp only [List.getElem?_set_ne hj] at h1
    exact .inl ⟨j, l, cp, h1, h2⟩
 refine ⟨_, hs, ⟨hI.base, by simp [hI.len], fun b o u hv => ?_, fun j e l h1 h2 => ?_, fun j j' l l' g cp cp' h1 h2 h3 h4 => ?_⟩, ?_⟩
 ·rw [cell_of_heap (hg2.blk b (hI.prot_lt hv))]; exact hI.prot b o u hv
 ·by_cases hj : k = j
  ·subst hj
   simp [hkl] at h1
   simp [hkc'] at h2
   subst h1; subst h2
   refine ⟨rfl, rfl, hpos, fun y hy => by simp at hy; subst hy; exact ⟨hlen, all_isCell hkc⟩, by simp, fun g cp cur' ty' fr' hl hh => ?_, fun g cp hl => ?_⟩
   ·simp at hl
    obtain ⟨rfl, rfl⟩ := hl
    rw [hnew] at hh
    cases hh; rfl
   ·simp at hl
    obtain ⟨rfl, rfl⟩ := hl
    refine ⟨v.cells, ty, hnew, by simp [hsize], by unfold maxLen; omega, by simp, fun i y j z a b => ?_, fun o u ho => ?_⟩
    ·cases i with
     | zero =>
      simp at a; subst a
      have hjl : j < v.cells.toList.length := by rw [hc.1.1]; exact (List.getElem?_eq_some_iff.1 b).1
      exact ⟨v.cells.toList[j], by simp at hjl; simp [hjl], (hc.1.2 j z _ b (by simp)).step hs⟩
     | succ i => simp at a
    ·have := hI.prot_lt ho; omega
  ·rw [List.getElem?_set_ne hj] at h1
   simp only [List.getElem?_set_ne hj] at h2
   exact (hI.ent j e l h1 h2).keep hs (fun g cap hl => hg2.blk g (hI.loced_lt ⟨j, l, cap, h2, hl⟩)) (fun _ _ _ _ _ h => h)
 ·have lt : ∀ {j : Nat} {l : Loc} {g cp : Nat}, (c.locs.set k ⟨e0.ver + 1, size, some (w.heap.size, 1)⟩)[j]? = some l → l.place = some (g, cp) → (j ≠ k ∧ c.locs[j]? = some l ∧ g < w.heap.size) ∨ (j = k ∧ g = w.heap.size) := by
   intro j l g cp a b
   by_cases hj : k = j
   ·subst hj
    simp [hkc'] at a; subst a; simp at b
    exact .inr ⟨rfl, b.1.symm⟩
   ·rw [List.getElem?_set_ne hj] at a
    exact .inl ⟨Ne.symm hj, a, hI.loced_lt ⟨j, l, cp, a, b⟩⟩
  rcases lt h1 h3 with ⟨a1, a2, a3⟩ | ⟨a1, a2⟩ <;> rcases lt h2 h4 with ⟨b1, b2, b3⟩ | ⟨b1, b2⟩
  ·exact hI.inj j j' l l' g cp cp' a2 b2 h3 h4
  ·omega
  ·omega
  ·omega
 ·exact .optr _ _ 0 0 ⟨e0.ver + 1, size, some (w.heap.size, 1)⟩ _ (by simp [hkc']) (Nat.le_refl _) (fun _ => ⟨w.heap.size, 1, rfl, by simp⟩) ⟨_, rfl⟩
theorem box_at {c : Ctx} {H : Heap} {w : World} (hI : Inv base c H w) {k : Nat} {e0 : Ent} (hk : H[k]? = some e0) {fr : AFr} {t : TypeId} {size : Nat} {lx : LOpd} {vx : Value} (rx : Rep c (opd fr lx) vx)
  (hc : (opd fr lx).cells.length = size ∧ 0 < size ∧ (opd fr lx).cells.all AVal.isCell = true) : Done P base (Instr.box t vx) c w (.optr k (e0.ver + 1) 0 0) (H.set k ⟨size, e0.ver + 1, false, [opd fr lx], t⟩) := by
 obtain ⟨c', a, b, d⟩ := hI.putNew hk rx hc.1 hc.2.1 hc.2.2 t
 exact ⟨_, _, c', by simp [Instr.box, newVar, newRow, newObj]; rfl, a, b, d⟩
theorem lowB1_ne (bu : Builtin) (at' : Array TypeId) (x : Operand) {size : Nat} {ty : TypeId} {lx : LOpd} : lowBuiltin1 P gl n bu at' x ≠ .newv size ty lx := by
 unfold lowBuiltin1
 repeat' split
 all_goals (intro h; cases h)
theorem lowB2_ne (bu : Builtin) (at' : Array TypeId) (x y : Operand) {size : Nat} {ty : TypeId} {lx : LOpd} : lowBuiltin2 P gl n bu at' x y ≠ .newv size ty lx := by
 unfold lowBuiltin2
 repeat' split
 all_goals (intro h; cases h)
theorem lowB_ne (bu : Builtin) (at' : Array TypeId) (l : List Operand) {size : Nat} {ty : TypeId} {lx : LOpd} : lowBuiltin P gl n bu at' l ≠ .newv size ty lx := by
 unfold lowBuiltin
 split
 ·exact lowB1_ne _ _ _
 ·exact lowB2_ne _ _ _ _
 ·intro h; cases h
theorem oper_new {hg : GlobOk base gl} (ops : Array Oper) {k : Nat} {o : Oper} (h0 : ops[k]? = some o) {c : Ctx} {H : Heap} {w : World} (hI : Inv base c H w) {fr : AFr} {a : Act} (hs : Sim n c fr a) {x : AVal} {H1 : Heap} {at' : Nat}
  (hfr : freshO (lowOper P gl n ops o) = true) (hev : newAt at' (lowOper P gl n ops o).op fr H = some (x, H1)) (K : Act → World → Prop) (Q : Exit → Act → World → Prop) (hK : ∀ v c' w', Step c w c' w' → Inv base c' H1 w' → Rep c' x v → K (a.put o.dst v) w') : wpOp P ops Q k K a w := by
 obtain ⟨size, ty, lx, e, hop, hc, he, _, rfl, rfl⟩ := newAt_spec hev
 have hgd : o.guard = none := by
  cases hgd : o.guard with
  | none => rfl
  | some jw =>
   exfalso
   unfold freshO at hfr
   simp only [Bool.and_eq_true] at hfr
   have h2 := hfr.2
   unfold lowOper at h2 hop
   obtain ⟨j, want⟩ := jw
   simp only [hgd, lowGuard] at h2 hop
   cases hdst : (ops[j]?.bind fun x => x.dst) with
   | none => simp [hdst] at hop
   | some s => by_cases hs' : s < n <;> simp [hdst, hs'] at h2 hop
 have hlow : lowOp P gl n o.op = .newv size ty lx := by
  unfold lowOper at hop
  simp only [hgd, lowGuard] at hop
  exact hop
 have R := opd_ok hg hs hI.base
 have run : After P base o a c w (.optr at' (e.ver + 1) 0 0) (H.set at' ⟨size, e.ver + 1, false, [opd fr lx], ty⟩) := by
  obtain ⟨dst, op, ty', pos, after, guard⟩ := o
  cases op <;> simp only [lowOp] at hlow <;> try (first | (cases hlow; done) | (split at hlow <;> cases hlow; done))
  case alloc t =>
   cases hlow
   unfold zeroT at hc ⊢
   cases hi : P.info? ty with
   | none => simp [hi, opd, AVal.cells, AVal.isCell] at hc
   | some i =>
    cases hz : i.zero with
    | none => simp [hi, hz, opd, AVal.cells, AVal.isCell] at hc
    | some z =>
     simp only [hi, hz] at hc ⊢
     obtain ⟨v, w', c', a', b'⟩ := box_at (P := P) (fr := fr) (t := ty) (vx := z) (lx := .cst (constA z)) hI he (constA_ok c z) hc
     refine .of_done rfl ⟨v, w', c', ?_, b'⟩
     rw [← a']
     simp [Instr.alloc, Instr.box, zeroValue, typeInfo, hi, hz, Sem.run_bind]
  case box t y =>
   cases hlow
   exact .of_done rfl (box_at hI he (R y) hc)
  all_goals (repeat' (split at hlow))
  all_goals first | (cases hlow; done) | exact absurd hlow (lowB_ne _ _ _)
 unfold wpOp
 simp only [h0]
 rw [if_pos (by simp [Region.wanted, hgd])]
 exact .inl (run _ _ hK)
theorem wpAny_of_anyB {ds : List Deferred} {T : Tab} (hT : TabOk P base T) (hg : GlobOk base gl) {W : List Nat} {N : Nat} {Q : AFr → Heap → Prop} {Q' : Exit → Act → World → Prop} {c : Ctx} {w : World} (hQ : ∀ fr H c' w' a', Step c w c' w' → Inv base c' H w' → Sim n c' fr a' → a'.defers = ds → Q fr H → Q' .normal a' w') :
  ∀ (m : Nat) (listed : Array Bool) (fr : AFr) (H : Heap) (c1 : Ctx) (w1 : World) (a1 : Act), Step c w c1 w1 → Inv base c1 H w1 → Sim n c1 fr a1 → a1.defers = ds → anyB P gl n b T W N ops Q m listed fr H → wpAny P .any ops Q' m listed a1 w1
 | 0, _, fr, H, c1, w1, a1, hs, hi, hm, hd, h => ⟨h.1, hQ fr H c1 w1 a1 hs hi hm hd h.2⟩
 | m + 1, listed, fr, H, c1, w1, a1, hs, hi, hm, hd, h => by
  refine ⟨fun h0 => hQ fr H c1 w1 a1 hs hi hm hd (h.1 h0), fun i hir => ?_⟩
  have hst := h.2 i hir
  unfold stB at hst
  cases ho : ops[i]? with
  | none =>
   rw [ho] at hst
   unfold wpOp
   rw [ho]
   exact wpAny_of_anyB hT hg hQ m _ fr H c1 w1 a1 hs hi hm hd hst
  | some o =>
   rw [ho] at hst
   obtain ⟨x, H', h1, _, h2⟩ := hst
   have next : ∀ v c' w', Step c1 w1 c' w' → Inv base c' H' w' → Rep c' x v → wpAny P .any ops Q' m (listed.setIfInBounds i true) (a1.put o.dst v) w' := fun v c' w' s' i' r' =>
    wpAny_of_anyB hT hg hQ m _ _ H' c' w' _ (hs.trans s') i' ((hm.step s').put r' o.dst) ((put_defers _ _ _).trans hd) h2
   by_cases hn : ∃ r, flagOf P gl n b ops i = .n r
   ·obtain ⟨r, hr⟩ := hn
    obtain ⟨_, hf, _⟩ := flag_n ops hr
    unfold freshAt at hf
    rw [ho] at hf
    rw [hr] at h1
    exact oper_new (hg := hg) ops ho hi hm hf h1 _ _ next
   ·rw [evalX_plain (fun r e => hn ⟨r, e⟩)] at h1
    exact oper_sound hT hg ops ho hi hm h1 _ _ next
theorem fillS_len {opv : LOpd → AVal} {size : Nat} : ∀ (parts : List (Nat × LOpd)) (es r : List AVal), fillS opv size es parts = some r → r.length = es.length
 | [], es, r, h => by simp [fillS] at h; rw [h]
 | (i, x) :: ps, es, r, h => by
  simp only [fillS] at h
  split at h
  ·have := fillS_len ps _ _ h
   rw [this, List.length_set]
  ·cases h
theorem app_fresh {o : LOper} (h : appO o = true) : freshO o = false := by
 unfold appO at h
 unfold freshO
 generalize o.op = op at h
 cases op <;> first | rfl | (simp at h; done)
theorem app_reader {o : LOper} (h : appO o = true) : readerOp o.op = false := by
 unfold appO at h
 generalize o.op = op at h
 cases op <;> first | rfl | (simp at h; done)
theorem app_free {T : Tab} {o : LOper} (h : appO o = true) {fr : AFr} {H H' : Heap} {x : AVal} (he : evalV T o fr H = some (x, H')) :
  ∃ ent : Ent, ent.elems ≠ [] ∧ H' = H ++ [ent] ∧ ∀ G : Heap, G.length = H.length → evalV T o fr G = some (x, G ++ [ent]) := by
 unfold appO at h
 simp only [Bool.and_eq_true] at h
 obtain ⟨h1, h2⟩ := h
 have hg : o.guard = none := by simpa using h2
 unfold evalV at he ⊢
 rw [hg] at he ⊢
 simp only at he ⊢
 generalize o.op = op at h1 he
 cases op <;> first | (simp at h1; done) | skip
 rename_i size ty z len parts
 have hl : 0 < len := of_decide_eq_true h1
 simp only [evalOp] at he ⊢
 split at he
 case isFalse => cases he
 rename_i hc
 cases hf : fillS (opd fr) size (List.replicate len z) parts with
 | none => rw [hf] at he; cases he
 | some es =>
  rw [hf] at he
  cases he
  have hes := fillS_len _ _ _ hf
  rw [List.length_replicate] at hes
  refine ⟨⟨size, 0, false, es, ty⟩, fun e => ?_, rfl, fun G hG => ?_⟩
  ·have : es = [] := e
   rw [this] at hes
   simp at hes
   omega
  ·rw [if_pos hc]
   simp only
   rw [hG]
theorem cond_app {T : Tab} {W : List Nat} {N : Nat} {fl : Fl} {o : LOper} {fr : AFr} {G G' : Heap} {ent : Ent} {x : AVal} (hl : G'.length = G.length) (hr : readerOp o.op = false) (ht : fl ≠ .t) (hcc : ∀ R, fl ≠ .c R) (h : condW T W N fl o fr G x (G ++ [ent])) : condW T W N fl o fr G' x (G' ++ [ent]) := by
 cases fl with
 | f => exact trivial
 | n r => exact trivial
 | t => exact absurd rfl ht
 | c R => exact absurd rfl (hcc R)
 | s =>
  have h0 : sideW W N o fr G (G ++ [ent]) := h
  show sideW W N o fr G' (G' ++ [ent])
  unfold sideW at *
  rw [if_neg (by rw [hr]; simp)] at h0 ⊢
  intro q hq hw
  have h1 := h0 q hq hw
  by_cases h2 : q < G'.length
  ·rw [List.getElem?_append_left h2]
  ·by_cases h3 : q = G.length
   ·subst h3
    rw [List.getElem?_append_right (Nat.le_refl _), Nat.sub_self, List.getElem?_eq_none (Nat.le_refl _)] at h1
    simp at h1
   ·rw [List.getElem?_eq_none (by simp; omega), List.getElem?_eq_none (by omega)]
theorem stB_put {T : Tab} {W : List Nat} {N : Nat} {i j : Nat} {oi oj : Oper} {v : AVal} {H H1 : Heap} (hij : i ≠ j) (hi : ops[i]? = some oi) (hj : ops[j]? = some oj) (hap : apartO (lowOper P gl n ops oi) (lowOper P gl n ops oj) = true)
  (hco : compatO b (lowOper P gl n ops oi) (lowOper P gl n ops oj) = true)
  (hfl : rwPair (lowOper P gl n ops oi) (lowOper P gl n ops oj) = true → flagOf P gl n b ops i ≠ .f ∧ flagOf P gl n b ops j ≠ .f)
  (htt : ttPair (lowOper P gl n ops oi) (lowOper P gl n ops oj) = true → (flagOf P gl n b ops i = .t ∨ flagOf P gl n b ops j = .t) ∨ (b = true ∧ freshAt P gl n ops j = true ∧ flagOf P gl n b ops i = .c (rankOf P gl n ops ops.size)) ∨ (b = true ∧ freshAt P gl n ops i = true ∧ flagOf P gl n b ops j = .c (rankOf P gl n ops ops.size))) {K : AFr → Heap → Prop} {fr : AFr}
  (hy : evalX T N (flagOf P gl n b ops i) (lowOper P gl n ops oi) fr H = some (v, H1)) (hsi : condW T W N (flagOf P gl n b ops i) (lowOper P gl n ops oi) fr H v H1) (h : stB P gl n b T W N ops j K (put fr oi.dst v) H1) :
  stB P gl n b T W N ops j (fun fr' H' => ∃ H2, evalX T N (flagOf P gl n b ops i) (lowOper P gl n ops oi) fr' H' = some (v, H2) ∧ condW T W N (flagOf P gl n b ops i) (lowOper P gl n ops oi) fr' H' v H2 ∧ K (put fr' oi.dst v) H2) fr H := by
 obtain ⟨h1, h2, h3⟩ := apartO_spec hap
 rw [low_dst] at h1 h2
 rw [low_dst, low_dst] at h3
 unfold stB at *
 rw [hj] at h ⊢
 obtain ⟨u, H2, hu, hsj, hk⟩ := h
 have ag1 := put_agree (fr := fr) (v := v) h1
 rw [evalX_agree ag1] at hu
 have hsj' : condW T W N (flagOf P gl n b ops j) (lowOper P gl n ops oj) fr H1 u H2 := condW_agree ag1 hsj
 have ag2 := put_agree (fr := fr) (v := u) h2
 have hev : ∀ G, evalX T N (flagOf P gl n b ops i) (lowOper P gl n ops oi) (put fr oj.dst u) G = evalX T N (flagOf P gl n b ops i) (lowOper P gl n ops oi) fr G := fun G => evalX_agree ag2 G
 have agb : Agree (readsO (lowOper P gl n ops oi)) fr (put fr oj.dst u) := fun k hk => (ag2 k hk).symm
 have hkk : K (put (put fr oj.dst u) oi.dst v) H2 := by rw [← put_comm' fr oi.dst oj.dst v u h3]; exact hk
 -- one of them comes to the same over any own arrays
 by_cases fi2 : flagOf P gl n b ops i = .t
 ·rw [fi2] at hsi hy hev ⊢
  have hst : ∀ G, evalV T (lowOper P gl n ops oi) fr G = some (v, G) := hsi
  have hy' : evalV T (lowOper P gl n ops oi) fr H = some (v, H1) := hy
  have e1 : H1 = H := by rw [hst H] at hy'; cases hy'; rfl
  subst e1
  exact ⟨u, H2, hu, hsj', H2, by rw [hev]; exact hst H2, fun G => by have := hev G; exact this.trans (hst G), hkk⟩
 by_cases fj2 : flagOf P gl n b ops j = .t
 ·rw [fj2] at hsj' hu ⊢
  have hst : ∀ G, evalV T (lowOper P gl n ops oj) fr G = some (u, G) := hsj'
  have hu' : evalV T (lowOper P gl n ops oj) fr H1 = some (u, H2) := hu
  have e1 : H2 = H1 := by rw [hst H1] at hu'; cases hu'; rfl
  subst e1
  exact ⟨u, H, hst H, hst, H2, by rw [hev]; exact hy, condW_agree agb hsi, hkk⟩
 have fresh_of : ∀ {k : Nat} {o : Oper} {r : Nat}, ops[k]? = some o → flagOf P gl n b ops k = .n r → freshO (lowOper P gl n ops o) = true := fun ho hr => by
  have := (flag_n ops hr).2.1
  unfold freshAt at this
  rw [ho] at this
  exact this
 have fresh_op : ∀ {o : LOper}, freshO o = true → pureOp o.op = false ∧ readerOp o.op = false := fun {o} h => by
  unfold freshO at h
  generalize o.op = op at h
  cases op <;> first | (simp at h; done) | exact ⟨rfl, rfl⟩
 have triv : ∀ {k : Nat} {o : LOper} {f : AFr} {G G' : Heap} {y : AVal}, (pureOp o.op = true) → flagOf P gl n b ops k ≠ .t → condW T W N (flagOf P gl n b ops k) o f G y G → True := fun _ _ _ => trivial
 unfold compatO at hco
 simp only [Bool.or_eq_true, Bool.and_eq_true] at hco
 rcases hco with ((((((hp | hp) | ⟨hri, hrj⟩) | hrw) | ht) | ⟨⟨hb, hni⟩, hnj⟩) | ⟨⟨hb, hni⟩, hnj⟩) | ⟨⟨hb, hni⟩, hnj⟩
 · -- the first is pure
  have ni : ∀ r, flagOf P gl n b ops i ≠ .n r := fun r e => by rw [(fresh_op (fresh_of hi e)).1] at hp; cases hp
  rw [evalX_plain ni] at hy
  obtain ⟨rfl, hall⟩ := pureV hp hy
  have hnr : readerOp (lowOper P gl n ops oi).op = false := by
   generalize (lowOper P gl n ops oi).op = o at hp
   cases o <;> first | rfl | (simp [pureOp] at hp)
  refine ⟨u, H2, hu, hsj', H2, by rw [hev, evalX_plain ni]; exact hall H2, ?_, hkk⟩
  cases hf : flagOf P gl n b ops i with
  | f => exact trivial
  | n r => exact trivial
  | t => exact absurd hf fi2
  | c R => obtain ⟨_, _, o', ho', hcl⟩ := flag_c ops hf; rw [hi] at ho'; cases ho'; rw [(call_not hcl).1] at hp; cases hp
  | s =>
   show sideW _ _ _ _ _ _
   unfold sideW
   rw [hnr]
   simp
 · -- the second is pure
  have nj : ∀ r, flagOf P gl n b ops j ≠ .n r := fun r e => by rw [(fresh_op (fresh_of hj e)).1] at hp; cases hp
  rw [evalX_plain nj] at hu
  obtain ⟨rfl, hall⟩ := pureV hp hu
  have hnr : readerOp (lowOper P gl n ops oj).op = false := by
   generalize (lowOper P gl n ops oj).op = o at hp
   cases o <;> first | rfl | (simp [pureOp] at hp)
  refine ⟨u, H, by rw [evalX_plain nj]; exact hall H, ?_, H2, by rw [hev]; exact hy, condW_agree agb hsi, hkk⟩
  cases hf : flagOf P gl n b ops j with
  | f => exact trivial
  | n r => exact trivial
  | t => exact absurd hf fj2
  | c R => obtain ⟨_, _, o', ho', hcl⟩ := flag_c ops hf; rw [hj] at ho'; cases ho'; rw [(call_not hcl).1] at hp; cases hp
  | s =>
   show sideW _ _ _ _ _ _
   unfold sideW
   rw [hnr]
   simp
 ·have ni : ∀ r, flagOf P gl n b ops i ≠ .n r := fun r e => by rw [(fresh_op (fresh_of hi e)).2] at hri; cases hri
  have nj : ∀ r, flagOf P gl n b ops j ≠ .n r := fun r e => by rw [(fresh_op (fresh_of hj e)).2] at hrj; cases hrj
  have hy0 := hy
  have hu0 := hu
  rw [evalX_plain ni] at hy
  rw [evalX_plain nj] at hu
  obtain ⟨rfl, _⟩ := readerV hri hy
  obtain ⟨rfl, _⟩ := readerV hrj hu
  exact ⟨u, H2, hu0, hsj', H2, by rw [hev]; exact hy0, condW_agree agb hsi, hkk⟩
 ·obtain ⟨fi, fj⟩ := hfl hrw
  have untouched : ∀ {k : Nat} {o : LOper} {G G' : Heap} {y : AVal}, flagOf P gl n b ops k ≠ .f → flagOf P gl n b ops k ≠ .t → readerOp o.op = false → evalX T N (flagOf P gl n b ops k) o fr G = some (y, G') → condW T W N (flagOf P gl n b ops k) o fr G y G' → ∀ q, q < N → q ∉ W → G'[q]? = G[q]? := by
   intro k o G G' y h1 h2 h3 h4 h5 q hq hw
   cases hf : flagOf P gl n b ops k with
   | f => exact absurd hf h1
   | t => exact absurd hf h2
   | s =>
    rw [hf] at h5
    have h6 : sideW W N o fr G G' := h5
    unfold sideW at h6
    rw [if_neg (by rw [h3]; simp)] at h6
    exact h6 q hq hw
   | c R =>
    rw [hf] at h5
    have h6 : sideW W N o fr G G' := h5.2.1
    unfold sideW at h6
    rw [if_neg (by rw [h3]; simp)] at h6
    exact h6 q hq hw
   | n r =>
    rw [hf] at h4
    obtain ⟨_, _, _, e, _, _, _, _, _, rfl⟩ := newAt_spec h4
    rw [List.getElem?_set_ne (by omega)]
  have looks : ∀ {k : Nat} {o : Oper} {G : Heap} {y : AVal}, ops[k]? = some o → flagOf P gl n b ops k ≠ .f → flagOf P gl n b ops k ≠ .t → readerOp (lowOper P gl n ops o).op = true → condW T W N (flagOf P gl n b ops k) (lowOper P gl n ops o) fr G y G →
    ((∀ r, flagOf P gl n b ops k ≠ .n r) ∧ ∀ q ∈ touched fr (lowOper P gl n ops o).op, q < N ∧ q ∉ W) := by
   intro k o G y h0 h1 h2 h3 h4
   cases hf : flagOf P gl n b ops k with
   | f => exact absurd hf h1
   | t => exact absurd hf h2
   | n r => have := (fresh_op (fresh_of h0 hf)).2; rw [h3] at this; cases this
   | c R => obtain ⟨_, _, o', ho', hcl⟩ := flag_c ops hf; rw [h0] at ho'; cases ho'; rw [(call_not hcl).2.1] at h3; cases h3
   | s =>
    rw [hf] at h4
    have h6 : sideW W N (lowOper P gl n ops o) fr G G := h4
    unfold sideW at h6
    rw [if_pos h3] at h6
    exact ⟨fun r e => by simp at e, h6⟩
  unfold rwPair at hrw
  simp only [Bool.or_eq_true, Bool.and_eq_true, Bool.not_eq_true'] at hrw
  rcases hrw with ⟨⟨hri, hpj⟩, hrj⟩ | ⟨⟨hrj, hpi⟩, hri⟩
  · -- the first looks, the second turns
   have ni : ∀ r, flagOf P gl n b ops i ≠ .n r := fun r e => by rw [(fresh_op (fresh_of hi e)).2] at hri; cases hri
   rw [evalX_plain ni] at hy
   obtain ⟨rfl, hall⟩ := readerV hri hy
   have si := (looks hi fi fi2 hri hsi).2
   have sj := untouched fj fj2 hrj hu hsj'
   have hcond : ∀ G, condW T W N (flagOf P gl n b ops i) (lowOper P gl n ops oi) fr G v G := fun G => by
    cases hf : flagOf P gl n b ops i with
    | f => exact trivial
    | n r => exact trivial
    | t => exact absurd hf fi2
    | c R => obtain ⟨_, _, o', ho', hcl⟩ := flag_c ops hf; rw [hi] at ho'; cases ho'; rw [(call_not hcl).2.1] at hri; cases hri
    | s =>
     show sideW _ _ _ _ _ _
     unfold sideW
     rw [if_pos hri]
     exact si
   refine ⟨u, H2, hu, hsj', H2, by rw [hev, evalX_plain ni]; exact hall H2 (fun k hk => sj k (si k hk).1 (si k hk).2), condW_agree agb (hcond H2), hkk⟩
  · -- the first turns, the second looks
   have nj : ∀ r, flagOf P gl n b ops j ≠ .n r := fun r e => by rw [(fresh_op (fresh_of hj e)).2] at hrj; cases hrj
   rw [evalX_plain nj] at hu
   obtain ⟨rfl, hall⟩ := readerV hrj hu
   have sj := (looks hj fj fj2 hrj hsj').2
   have si := untouched fi fi2 hri hy hsi
   have hcond : ∀ G, condW T W N (flagOf P gl n b ops j) (lowOper P gl n ops oj) fr G u G := fun G => by
    cases hf : flagOf P gl n b ops j with
    | f => exact trivial
    | n r => exact trivial
    | t => exact absurd hf fj2
    | c R => obtain ⟨_, _, o', ho', hcl⟩ := flag_c ops hf; rw [hj] at ho'; cases ho'; rw [(call_not hcl).2.1] at hrj; cases hrj
    | s =>
     show sideW _ _ _ _ _ _
     unfold sideW
     rw [if_pos hrj]
     exact sj
   refine ⟨u, H, by rw [evalX_plain nj]; exact hall H (fun k hk => (si k (sj k hk).1 (sj k hk).2).symm), hcond H, H2, by rw [hev]; exact hy, condW_agree agb hsi, hkk⟩
 ·rcases htt ht with (h | h) | ⟨hb, gj, fi⟩ | ⟨hb, gi, fj⟩
  ·exact absurd h fi2
  ·exact absurd h fj2
  · -- a call, a new variable
   have ej : flagOf P gl n b ops j = .n (rankOf P gl n ops j) := by unfold flagOf; rw [if_pos (by simp [hb, gj])]
   have hr : rankOf P gl n ops j < rankOf P gl n ops ops.size := rank_lt ops (Array.getElem?_eq_some_iff.1 hj).1 gj
   rw [fi] at hy hsi hev ⊢
   rw [ej] at hu ⊢
   have hy' : evalV T (lowOper P gl n ops oi) fr H = some (v, H1) := hy
   obtain ⟨⟨hl, hl1⟩, hsd, hM⟩ := hsi
   obtain ⟨sj, tj, xj, e2, oj1, cj, hj1, m2, rfl, rfl⟩ := newAt_spec hu
   have hm := mid_of hl
   have e1 : H1 = midH N (rankOf P gl n ops ops.size) H1 ((H.drop N).take (rankOf P gl n ops ops.size)) := by
    have h1 := hM _ hm
    rw [mid_self hl, hy'] at h1
    simp only [Option.some.injEq, Prod.mk.injEq, true_and] at h1
    exact h1
   have hH : H = midH N (rankOf P gl n ops ops.size) H ((H.drop N).take (rankOf P gl n ops ops.size)) := (mid_self hl).symm
   obtain ⟨mm, hmm⟩ : ∃ mm, mm = (H.drop N).take (rankOf P gl n ops ops.size) := ⟨_, rfl⟩
   rw [← hmm] at hm e1 hH
   have hg : H[N + rankOf P gl n ops j]? = some e2 := by
    rw [e1, mid_get hl1 hm hr] at hj1
    rw [hH, mid_get hl hm hr]
    exact hj1
   have hs1 : H.set (N + rankOf P gl n ops j) ⟨sj, e2.ver + 1, false, [opd fr xj], tj⟩ = midH N (rankOf P gl n ops ops.size) H (mm.set (rankOf P gl n ops j) ⟨sj, e2.ver + 1, false, [opd fr xj], tj⟩) := by
    conv => lhs; rw [hH]
    rw [mid_set hl hm hr]
   have hs2 : H1.set (N + rankOf P gl n ops j) ⟨sj, e2.ver + 1, false, [opd fr xj], tj⟩ = midH N (rankOf P gl n ops ops.size) H1 (mm.set (rankOf P gl n ops j) ⟨sj, e2.ver + 1, false, [opd fr xj], tj⟩) := by
    conv => lhs; rw [e1]
    rw [mid_set hl1 hm hr]
   have hml : (mm.set (rankOf P gl n ops j) ⟨sj, e2.ver + 1, false, [opd fr xj], tj⟩).length = rankOf P gl n ops ops.size := by rw [List.length_set]; exact hm
   have key := hM _ hml
   refine ⟨_, H.set (N + rankOf P gl n ops j) ⟨sj, e2.ver + 1, false, [opd fr xj], tj⟩, ?_, trivial, H1.set (N + rankOf P gl n ops j) ⟨sj, e2.ver + 1, false, [opd fr xj], tj⟩, ?_, ?_, hkk⟩
   ·show newAt _ _ _ _ = _
    rw [oj1]
    exact newAt_at cj hg m2
   ·rw [hev]
    show evalV _ _ _ _ = _
    rw [hs1, hs2]
    exact key
   ·refine condW_agree (fl := .c (rankOf P gl n ops ops.size)) agb ⟨⟨by rw [List.length_set]; exact hl, by rw [List.length_set]; exact hl1⟩, ?_, fun M hMl => ?_⟩
    ·unfold sideW at hsd ⊢
     split at hsd
     ·rename_i hr'; rw [if_pos hr']; exact hsd
     ·rename_i hr'
      rw [if_neg hr']
      intro q hq hw
      rw [List.getElem?_set_ne (by omega), List.getElem?_set_ne (by omega)]
      exact hsd q hq hw
    ·rw [hs1, hs2, mid_mid hl hml, mid_mid hl1 hml]
     exact hM M hMl
  · -- a new variable, a call
   have ei : flagOf P gl n b ops i = .n (rankOf P gl n ops i) := by unfold flagOf; rw [if_pos (by simp [hb, gi])]
   have hr : rankOf P gl n ops i < rankOf P gl n ops ops.size := rank_lt ops (Array.getElem?_eq_some_iff.1 hi).1 gi
   rw [ei] at hy hev ⊢
   rw [fj] at hu hsj' ⊢
   obtain ⟨si, ti, xi, e1, oi1, ci, hi1, m1, rfl, rfl⟩ := newAt_spec hy
   obtain ⟨⟨hl, hl2⟩, hsd, hM⟩ := hsj'
   rw [List.length_set] at hl
   have hm := mid_of hl
   have hH : H = midH N (rankOf P gl n ops ops.size) H ((H.drop N).take (rankOf P gl n ops ops.size)) := (mid_self hl).symm
   obtain ⟨mm, hmm⟩ : ∃ mm, mm = (H.drop N).take (rankOf P gl n ops ops.size) := ⟨_, rfl⟩
   rw [← hmm] at hm hH
   have hs1 : H.set (N + rankOf P gl n ops i) ⟨si, e1.ver + 1, false, [opd fr xi], ti⟩ = midH N (rankOf P gl n ops ops.size) H (mm.set (rankOf P gl n ops i) ⟨si, e1.ver + 1, false, [opd fr xi], ti⟩) := by
    conv => lhs; rw [hH]
    rw [mid_set hl hm hr]
   have hml : (mm.set (rankOf P gl n ops i) ⟨si, e1.ver + 1, false, [opd fr xi], ti⟩).length = rankOf P gl n ops ops.size := by rw [List.length_set]; exact hm
   have hM' : ∀ M : Heap, M.length = rankOf P gl n ops ops.size → evalV T (lowOper P gl n ops oj) fr (midH N (rankOf P gl n ops ops.size) H M) = some (u, midH N (rankOf P gl n ops ops.size) H2 M) := fun M hMl => by
    have := hM M hMl
    rw [hs1, mid_mid hl hml] at this
    exact this
   have hu' : evalV T (lowOper P gl n ops oj) fr (midH N (rankOf P gl n ops ops.size) H (mm.set (rankOf P gl n ops i) ⟨si, e1.ver + 1, false, [opd fr xi], ti⟩)) = some (u, H2) := by rw [← hs1]; exact hu
   have e2 : H2 = midH N (rankOf P gl n ops ops.size) H2 (mm.set (rankOf P gl n ops i) ⟨si, e1.ver + 1, false, [opd fr xi], ti⟩) := by
    have h1 := hM' _ hml
    rw [hu'] at h1
    simp only [Option.some.injEq, Prod.mk.injEq, true_and] at h1
    exact h1
   have h0 := hM' mm hm
   rw [← hH] at h0
   have hg : (midH N (rankOf P gl n ops ops.size) H2 mm)[N + rankOf P gl n ops i]? = some e1 := by
    rw [mid_get hl2 hm hr]
    rw [hH, mid_get hl hm hr] at hi1
    exact hi1
   refine ⟨u, midH N (rankOf P gl n ops ops.size) H2 mm, h0, ⟨⟨hl, by rw [mid_len hl2 hm]; exact hl2⟩, ?_, fun M hMl => by rw [mid_mid hl2 hm]; exact hM' M hMl⟩, H2, ?_, trivial, hkk⟩
   ·unfold sideW at hsd ⊢
    split at hsd
    ·rename_i hr'; rw [if_pos hr']; exact hsd
    ·rename_i hr'
     rw [if_neg hr']
     intro q hq hw
     have h1 := hsd q hq hw
     rw [List.getElem?_set_ne (by omega)] at h1
     rw [← h1]
     unfold midH
     rw [List.append_assoc, List.getElem?_append_left (by simp; omega), List.getElem?_take, if_pos hq]
   ·rw [hev]
    show newAt _ _ _ _ = _
    rw [oi1, newAt_at ci hg m1, mid_set hl2 hm hr, ← e2]
 · -- two new variables
  have gi : freshAt P gl n ops i = true := by unfold freshAt; rw [hi]; exact hni
  have gj : freshAt P gl n ops j = true := by unfold freshAt; rw [hj]; exact hnj
  have ei : flagOf P gl n b ops i = .n (rankOf P gl n ops i) := by unfold flagOf; rw [if_pos (by simp [hb, gi])]
  have ej : flagOf P gl n b ops j = .n (rankOf P gl n ops j) := by unfold flagOf; rw [if_pos (by simp [hb, gj])]
  have hne := rank_ne ops hij gi gj
  rw [ei] at hy hev ⊢
  rw [ej] at hu ⊢
  obtain ⟨si, ti, xi, e1, oi1, ci, hi1, m1, rfl, rfl⟩ := newAt_spec hy
  obtain ⟨sj, tj, xj, e2, oj1, cj, hj1, m2, rfl, rfl⟩ := newAt_spec hu
  rw [List.getElem?_set_ne (by omega)] at hj1
  refine ⟨_, H.set (N + rankOf P gl n ops j) ⟨sj, e2.ver + 1, false, [opd fr xj], tj⟩, ?_, trivial, (H.set (N + rankOf P gl n ops i) ⟨si, e1.ver + 1, false, [opd fr xi], ti⟩).set (N + rankOf P gl n ops j) ⟨sj, e2.ver + 1, false, [opd fr xj], tj⟩, ?_, trivial, hkk⟩
  ·show newAt _ _ _ _ = _
   rw [oj1]
   exact newAt_at cj hj1 m2
  ·rw [hev]
   show newAt _ _ _ _ = _
   rw [oi1, newAt_at ci (by rw [List.getElem?_set_ne (by omega)]; exact hi1) m1]
   rw [List.set_comm _ _ (by omega)]
 · -- a new variable, a new array
  have gi : freshAt P gl n ops i = true := by unfold freshAt; rw [hi]; exact hni
  have ei : flagOf P gl n b ops i = .n (rankOf P gl n ops i) := by unfold flagOf; rw [if_pos (by simp [hb, gi])]
  have nj : ∀ r, flagOf P gl n b ops j ≠ .n r := fun r e => by have := fresh_of hj e; rw [app_fresh hnj] at this; cases this
  rw [ei] at hy hev ⊢
  rw [evalX_plain nj] at hu
  obtain ⟨si, ti, xi, e1, oi1, ci, hi1, m1, rfl, rfl⟩ := newAt_spec hy
  obtain ⟨ent, hne, rfl, hall⟩ := app_free hnj hu
  have hk : N + rankOf P gl n ops i < H.length := (List.getElem?_eq_some_iff.1 hi1).1
  have hlen : (H.set (N + rankOf P gl n ops i) ⟨si, e1.ver + 1, false, [opd fr xi], ti⟩).length = H.length := by simp
  refine ⟨u, H ++ [ent], by rw [evalX_plain nj]; exact hall H hlen.symm, ?_, _, ?_, trivial, hkk⟩
  ·exact cond_app hlen.symm (app_reader hnj) fj2 (fun R e => by obtain ⟨_, _, o', ho', hcl⟩ := flag_c ops e; rw [hj] at ho'; cases ho'; rw [(call_not hcl).2.2.1] at hnj; cases hnj) hsj'
  ·rw [hev]
   show newAt _ _ _ _ = _
   rw [oi1, newAt_at ci (by rw [List.getElem?_append_left hk]; exact hi1) m1, List.set_append_left _ _ hk]
 · -- a new array, a new variable
  have gj : freshAt P gl n ops j = true := by unfold freshAt; rw [hj]; exact hnj
  have ej : flagOf P gl n b ops j = .n (rankOf P gl n ops j) := by unfold flagOf; rw [if_pos (by simp [hb, gj])]
  have ni : ∀ r, flagOf P gl n b ops i ≠ .n r := fun r e => by have := fresh_of hi e; rw [app_fresh hni] at this; cases this
  have hev' : ∀ G, evalX T N (flagOf P gl n b ops i) (lowOper P gl n ops oi) (put fr oj.dst u) G = evalV T (lowOper P gl n ops oi) fr G := fun G => by rw [hev, evalX_plain ni]
  rw [evalX_plain ni] at hy
  rw [ej] at hu ⊢
  obtain ⟨ent, hne, rfl, hall⟩ := app_free hni hy
  obtain ⟨sj, tj, xj, e2, oj1, cj, hj1, m2, rfl, rfl⟩ := newAt_spec hu
  have hk : N + rankOf P gl n ops j < H.length := by
   have h1 := (List.getElem?_eq_some_iff.1 hj1).1
   rw [List.length_append, List.length_singleton] at h1
   by_cases h2 : N + rankOf P gl n ops j = H.length
   ·rw [h2, List.getElem?_append_right (Nat.le_refl _), Nat.sub_self] at hj1
    cases hj1
    exact absurd m2 hne
   ·omega
  rw [List.getElem?_append_left hk] at hj1
  have hlen : (H.set (N + rankOf P gl n ops j) ⟨sj, e2.ver + 1, false, [opd fr xj], tj⟩).length = H.length := by simp
  refine ⟨_, H.set (N + rankOf P gl n ops j) ⟨sj, e2.ver + 1, false, [opd fr xj], tj⟩, ?_, trivial, _, ?_, ?_, hkk⟩
  ·show newAt _ _ _ _ = _
   rw [oj1]
   exact newAt_at cj hj1 m2
  ·rw [hev', hall _ hlen, List.set_append_left _ _ hk]
  ·rw [List.set_append_left _ _ hk]
   exact condW_agree agb (cond_app hlen (app_reader hni) fi2 (fun R e => by obtain ⟨_, _, o', ho', hcl⟩ := flag_c ops e; rw [hi] at ho'; cases ho'; rw [(call_not hcl).2.2.1] at hni; cases hni) hsi)
def Closed (ops : Array Oper) (listed : Array Bool) : Prop := ∀ (x : Nat) o, ops[x]? = some o → listed.getD x false = true → ∀ e ∈ o.after, Region.binds .any e = true → listed.getD e.on false = true
theorem ancE_bit {acc : List Nat} {i : Nat} : ∀ (l : List Edge) (m : Nat), (l.foldl (ancE acc) m).testBit i = true → m.testBit i = true ∨ ∃ e ∈ l, Region.binds .any e = true ∧ (e.on = i ∨ (acc.getD e.on 0).testBit i = true)
 | [], m, h => .inl h
 | e :: l, m, h => by
  rcases ancE_bit l _ h with h1 | ⟨e', h1, h2⟩
  ·unfold ancE at h1
   split at h1
   ·rename_i hb
    simp only [Nat.testBit_or, Bool.or_eq_true] at h1
    rcases h1 with (h1 | h1) | h1
    ·exact .inl h1
    ·refine .inr ⟨e, by simp, hb, .inl ?_⟩
     simp only [Nat.testBit_shiftLeft, Bool.and_eq_true, decide_eq_true_eq] at h1
     have := h1.2
     by_cases h0 : i - e.on = 0
     ·omega
     ·rw [Nat.testBit_one_eq_true_iff_self_eq_zero] at this; omega
    ·exact .inr ⟨e, by simp, hb, .inr h1⟩
   ·exact .inl h1
  ·exact .inr ⟨e', by simp [h1], h2⟩
def Bars (ops : Array Oper) (listed : Array Bool) (i : Nat) (acc : List Nat) : Prop := ∀ j, (acc.getD j 0).testBit i = true → listed.getD j true = false ∧ j ∉ Region.ready .any ops listed
theorem ancs_bars {listed : Array Bool} {i : Nat} (hc : Closed ops listed) (hsz : listed.size = ops.size) (hi : listed.getD i true = false) : ∀ (l : List Oper) (acc : List Nat), (∀ j : Nat, l[j]? = ops[acc.length + j]?) → Bars ops listed i acc → Bars ops listed i (ancs l acc)
 | [], acc, _, h => h
 | o :: r, acc, hl, h => by
  refine ancs_bars hc hsz hi r _ (fun j => by have := hl (j + 1); simpa [Nat.add_assoc, Nat.add_comm 1 j] using this) (fun j hj => ?_)
  by_cases hlt : j < acc.length
  ·rw [List.getD_eq_getElem?_getD, List.getElem?_append_left hlt, ← List.getD_eq_getElem?_getD] at hj
   exact h j hj
  ·by_cases he : j = acc.length
   ·subst he
    rw [List.getD_eq_getElem?_getD, List.getElem?_append_right (Nat.le_refl _)] at hj
    simp only [Nat.sub_self, List.getElem?_cons_zero, Option.getD_some] at hj
    have h0 : ops[acc.length]? = some o := by simpa using (hl 0).symm
    have hlt : acc.length < listed.size := by rw [hsz]; exact (Array.getElem?_eq_some_iff.1 h0).1
    rcases ancE_bit _ _ hj with h1 | ⟨e, he, hb, h1⟩
    ·simp at h1
    ·have hun : listed.getD e.on true = false := by
      rcases h1 with h1 | h1
      ·rw [h1]; exact hi
      ·exact (h _ h1).1
     have hem : e ∈ o.after := by simpa using he
     have hno : listed.getD e.on false ≠ true := fun h2 => by
      rcases Nat.lt_or_ge e.on listed.size with h' | h'
      ·simp [h'] at hun h2; rw [hun] at h2; cases h2
      ·simp [Array.getElem?_eq_none h'] at hun
     constructor
     ·cases hL : listed.getD acc.length true with
      | false => rfl
      | true =>
       have hL' : listed.getD acc.length false = true := by simp [hlt] at hL ⊢; exact hL
       exact absurd (hc _ o h0 hL' e hem hb) hno
     ·intro hr
      obtain ⟨_, o', ho', hall⟩ := mem_ready.1 hr
      rw [h0] at ho'
      cases ho'
      exact hno (hall e hem hb)
   ·rw [List.getD_eq_getElem?_getD, List.getElem?_eq_none (by simp; omega)] at hj
    simp at hj
theorem behind_not {listed : Array Bool} {i j : Nat} (hc : Closed ops listed) (hsz : listed.size = ops.size) (hi : listed.getD i true = false) (hb : behind (ancA ops) j i = true) : j ∉ Region.ready .any ops listed :=
 (ancs_bars ops hc hsz hi ops.toList [] (by simp) (fun j h => by simp at h) j hb).2
theorem Closed.step {listed : Array Bool} {j : Nat} (hc : Closed ops listed) (hj : j ∈ Region.ready .any ops listed) : Closed ops (listed.setIfInBounds j true) := by
 intro x o hx hL e he hb
 by_cases hxj : j = x
 ·subst hxj
  obtain ⟨_, o', ho', hall⟩ := mem_ready.1 hj
  rw [hx] at ho'
  cases ho'
  exact getD_set_true (hall e he hb)
 ·rw [getD_set_ne false hxj] at hL
  exact getD_set_true (hc x o hx hL e he hb)
def FreeW (P : Program) (gl : Nat → AVal) (n : Nat) (b : Bool) (ops : Array Oper) (i j : Nat) (oi oj : Oper) : Prop :=
 apartO (lowOper P gl n ops oi) (lowOper P gl n ops oj) = true ∧ compatO b (lowOper P gl n ops oi) (lowOper P gl n ops oj) = true
theorem anyB_first {T : Tab} {W : List Nat} {N : Nat} {Q : AFr → Heap → Prop} {i : Nat} {oi : Oper} {v : AVal} (hi : ops[i]? = some oi) :
  ∀ (m : Nat) (listed : Array Bool) (fr : AFr) (H H1 : Heap), Closed ops listed → listed.size = ops.size →
   (∀ j oj, ops[j]? = some oj → j ≠ i → listed.getD j true = false → behind (ancA ops) j i = false → FreeW P gl n b ops i j oi oj) →
   i ∈ Region.ready .any ops listed → evalX T N (flagOf P gl n b ops i) (lowOper P gl n ops oi) fr H = some (v, H1) → condW T W N (flagOf P gl n b ops i) (lowOper P gl n ops oi) fr H v H1 →
   anyB P gl n b T W N ops Q m (listed.setIfInBounds i true) (put fr oi.dst v) H1 → anyB P gl n b T W N ops Q (m + 1) listed fr H := by
 intro m
 induction m with
 | zero =>
  intro listed fr H H1 _ _ _ hr hy hs hh
  refine ⟨fun h => (by rw [h] at hr; cases hr), fun j hj => ?_⟩
  by_cases hji : j = i
  ·subst hji; unfold stB; rw [hi]; exact ⟨v, H1, hy, hs, hh⟩
  ·have := ready_mono hj hji
   rw [hh.1] at this
   cases this
 | succ m ih =>
  intro listed fr H H1 hcl hsz hfree hr hy hs hh
  refine ⟨fun h => (by rw [h] at hr; cases hr), fun j hj => ?_⟩
  by_cases hji : j = i
  ·subst hji; unfold stB; rw [hi]; exact ⟨v, H1, hy, hs, hh⟩
  ·have h1 := hh.2 j (ready_mono hj hji)
   obtain ⟨hjun, oj, hoj, hall⟩ := mem_ready.1 hj
   have hiun : listed.getD i true = false := (mem_ready.1 hr).1
   have hnot : behind (ancA ops) j i = false := by
    cases hb : behind (ancA ops) j i with
    | false => rfl
    | true => exact absurd hj (behind_not ops hcl hsz hiun hb)
   have hnoti : behind (ancA ops) i j = false := by
    cases hb : behind (ancA ops) i j with
    | false => rfl
    | true => exact absurd hr (behind_not ops hcl hsz hjun hb)
   obtain ⟨hap, hco⟩ := hfree j oj hoj hji hjun hnot
   have hlti : i < ops.size := (Array.getElem?_eq_some_iff.1 hi).1
   have hltj : j < ops.size := (Array.getElem?_eq_some_iff.1 hoj).1
   have hij : j ≠ i := hji
   have open1 : ∀ p : LOper → LOper → Bool, p (lowOper P gl n ops oi) (lowOper P gl n ops oj) = true → openTo P gl n p ops i = true := fun p hp => by
    unfold openTo
    rw [List.any_eq_true]
    refine ⟨j, List.mem_range.2 hltj, ?_⟩
    rw [hi, hoj]
    simp [hp, hnoti, hnot, hij]
   have open2 : ∀ p : LOper → LOper → Bool, p (lowOper P gl n ops oj) (lowOper P gl n ops oi) = true → openTo P gl n p ops j = true := fun p hp => by
    unfold openTo
    rw [List.any_eq_true]
    refine ⟨i, List.mem_range.2 hlti, ?_⟩
    rw [hi, hoj]
    simp [hp, hnoti, hnot, Ne.symm hij]
   have nz : ∀ k, openTo P gl n rwPair ops k = true → flagOf P gl n b ops k ≠ .f := fun k hk => by
    unfold flagOf
    rw [hk]
    split
    ·simp
    ·split
     ·simp
     ·split <;> simp
   have hfl : rwPair (lowOper P gl n ops oi) (lowOper P gl n ops oj) = true → flagOf P gl n b ops i ≠ .f ∧ flagOf P gl n b ops j ≠ .f := fun hrw => by
    have hrw' : rwPair (lowOper P gl n ops oj) (lowOper P gl n ops oi) = true := by
     unfold rwPair at hrw ⊢
     rw [Bool.or_comm]
     exact hrw
    exact ⟨nz i (open1 _ hrw), nz j (open2 _ hrw')⟩
   have htt : ttPair (lowOper P gl n ops oi) (lowOper P gl n ops oj) = true → (flagOf P gl n b ops i = .t ∨ flagOf P gl n b ops j = .t) ∨ (b = true ∧ freshAt P gl n ops j = true ∧ flagOf P gl n b ops i = .c (rankOf P gl n ops ops.size)) ∨ (b = true ∧ freshAt P gl n ops i = true ∧ flagOf P gl n b ops j = .c (rankOf P gl n ops ops.size)) := fun ht => by
    have ht' : ttPair (lowOper P gl n ops oj) (lowOper P gl n ops oi) = true := by
     unfold ttPair at ht ⊢
     rw [Bool.and_comm (turner _), Bool.or_comm]
     exact ht
    have hc : callOp (lowOper P gl n ops oi).op = true ∨ callOp (lowOper P gl n ops oj).op = true := by
     unfold ttPair at ht
     simp only [Bool.and_eq_true, Bool.or_eq_true] at ht
     exact ht.2
    have ft : ∀ {k : Nat} {o : Oper}, ops[k]? = some o → callOp (lowOper P gl n ops o).op = true → ¬ (b && freshAt P gl n ops k) = true := fun {k o} hk hcall hb => by
     simp only [Bool.and_eq_true] at hb
     have hb := hb.2
     unfold freshAt at hb
     rw [hk] at hb
     simp only at hb
     unfold freshO at hb
     generalize (lowOper P gl n ops o).op = op at hb hcall
     cases op <;> first | (simp at hb; done) | (simp [callOp] at hcall; done)
    rcases hc with hc | hc
    ·by_cases hst : openTo P gl n (fun x y => callOp x.op && ttPair x y && !(b && freshO y)) ops i = true
     ·left; left
      unfold flagOf
      rw [if_neg (ft hi hc), if_pos hst]
     ·right; left
      have hbf : (b && freshO (lowOper P gl n ops oj)) = true := by
       cases hbf : (b && freshO (lowOper P gl n ops oj)) with
       | true => rfl
       | false => exact absurd (open1 (fun x y => callOp x.op && ttPair x y && !(b && freshO y)) (by simp only [hc, ht, hbf]; rfl)) hst
      simp only [Bool.and_eq_true] at hbf
      refine ⟨hbf.1, by unfold freshAt; rw [hoj]; exact hbf.2, ?_⟩
      unfold flagOf
      rw [if_neg (ft hi hc), if_neg hst, if_pos (by rw [hbf.1, open1 (fun x y => callOp x.op && ttPair x y) (by simp [hc, ht])]; rfl)]
    ·by_cases hst : openTo P gl n (fun x y => callOp x.op && ttPair x y && !(b && freshO y)) ops j = true
     ·left; right
      unfold flagOf
      rw [if_neg (ft hoj hc), if_pos hst]
     ·right; right
      have hbf : (b && freshO (lowOper P gl n ops oi)) = true := by
       cases hbf : (b && freshO (lowOper P gl n ops oi)) with
       | true => rfl
       | false => exact absurd (open2 (fun x y => callOp x.op && ttPair x y && !(b && freshO y)) (by simp only [hc, ht', hbf]; rfl)) hst
      simp only [Bool.and_eq_true] at hbf
      refine ⟨hbf.1, by unfold freshAt; rw [hi]; exact hbf.2, ?_⟩
      unfold flagOf
      rw [if_neg (ft hoj hc), if_neg hst, if_pos (by rw [hbf.1, open2 (fun x y => callOp x.op && ttPair x y) (by simp [hc, ht'])]; rfl)]
   have h2 := stB_put ops (Ne.symm hji) hi hoj hap hco hfl htt hy hs h1
   have hfree' : ∀ k ok, ops[k]? = some ok → k ≠ i → (listed.setIfInBounds j true).getD k true = false →
     behind (ancA ops) k i = false → FreeW P gl n b ops i k oi ok := fun k ok hk hki hun hno => by
    refine hfree k ok hk hki ?_ hno
    by_cases hjk : j = k
    ·subst hjk; exact hjun
    ·rw [getD_set_ne true hjk] at hun; exact hun
   refine stB_mono ops (fun fr' H' h3 => ?_) h2
   obtain ⟨H3, q1, q2, q3⟩ := h3
   refine ih (listed.setIfInBounds j true) fr' H' H3 (hcl.step ops hj) (by rw [Array.size_setIfInBounds, hsz]) hfree' (ready_mono hr (Ne.symm hji)) q1 q2 ?_
   rw [Array.setIfInBounds_comm _ _ hji]
   exact q3
theorem freeAtW_spec {listed : Array Bool} {k : Nat} {ok : Oper} (hk : ops[k]? = some ok) (h : freeAtW P gl n b ops listed k = true) : ∀ j oj, ops[j]? = some oj → j ≠ k → listed.getD j true = false → behind (ancA ops) j k = false →
  FreeW P gl n b ops k j ok oj := by
 intro j oj hj hjk hun hno
 unfold freeAtW at h
 have hlt : j < ops.size := (Array.getElem?_eq_some_iff.1 hj).1
 have := List.all_eq_true.1 h j (List.mem_range.2 hlt)
 rw [hj, hk] at this
 simp only [Bool.or_eq_true, beq_iff_eq] at this
 rcases this with ((h1 | h1) | h1) | h1
 ·exact absurd h1 hjk
 ·rw [hun] at h1; cases h1
 ·rw [hno] at h1; cases h1
 ·simp only [Bool.and_eq_true] at h1
  exact h1
theorem anyB_lex {T : Tab} {W : List Nat} {N : Nat} {Q : AFr → Heap → Prop} : ∀ (l : List Oper) (k : Nat) (listed : Array Bool) (fr : AFr) (H : Heap), Closed ops listed → listed.size = ops.size → (∀ j : Nat, l[j]? = ops[k + j]?) → lexOkW P gl n b ops l.length k listed = true →
  evalN T W N Q (flagged P gl n b ops k l) fr H → anyB P gl n b T W N ops Q l.length listed fr H
 | [], _, listed, fr, H, _, _, _, hB, h => ⟨by simpa [lexOkW] using hB, h⟩
 | o :: l, k, listed, fr, H, hcl, hsz, hl, hB, h => by
  have h0 : ops[k]? = some o := by simpa using (hl 0).symm
  simp only [List.length_cons, lexOkW, Bool.and_eq_true] at hB
  obtain ⟨⟨hr, hf⟩, hB'⟩ := hB
  simp only [flagged, evalN] at h
  cases hev : evalX T N (flagOf P gl n b ops k) (lowOper P gl n ops o) fr H with
  | none => rw [hev] at h; exact h.elim
  | some r =>
   obtain ⟨x, H'⟩ := r
   rw [hev] at h
   simp only at h
   obtain ⟨hs, h2⟩ := h
   rw [low_dst] at h2
   have hrk : k ∈ Region.ready .any ops listed := by simpa using hr
   exact anyB_first ops h0 l.length listed fr H H' hcl hsz (freeAtW_spec ops h0 hf) hrk hev hs
    (anyB_lex l (k + 1) _ _ H' (hcl.step ops hrk) (by rw [Array.size_setIfInBounds, hsz]) (fun j => by have := hl (j + 1); simpa [Nat.add_assoc, Nat.add_comm 1 j] using this) hB' h2)
end
end Go.Abs

/-
 ABS, part P: code and functions: a contract out of what the evaluation of the lowered code says.
-/
namespace Go.Abs
variable {P : Program} {base : Prot}
theorem Inv.keepN {c : Ctx} {H : Heap} {w : World} (hI : Inv base c H w) : ∀ R : Nat, ∃ c', Step c w c' w ∧ Inv base c' (H ++ List.replicate R kept) w
 | 0 => ⟨c, .refl _ _, by simpa using hI⟩
 | R + 1 => by
  obtain ⟨c1, s1, i1⟩ := Inv.keepN hI R
  obtain ⟨s2, i2⟩ := i1.allocNil 1 0 (by omega)
  refine ⟨_, s1.trans s2, ?_⟩
  have : H ++ List.replicate (R + 1) kept = H ++ List.replicate R kept ++ [⟨1, 0, false, [], 0⟩] := by
   rw [List.replicate_succ', List.append_assoc]; rfl
  rw [this]
  exact i2
theorem flagged_plain {gl : Nat → AVal} {n : Nat} (ops : Array Oper) : ∀ (l : List Oper) (k : Nat), ∀ p ∈ flagged P gl n false ops k l, ∀ r, p.2 ≠ .n r
 | [], _, p, hp, _ => by simp [flagged] at hp
 | o :: l, k, p, hp, r => by
  simp only [flagged, List.mem_cons] at hp
  rcases hp with rfl | hp
  ·intro h
   have := flag_n ops (P := P) (gl := gl) (n := n) (b := false) (i := k) (r := r) h
   cases this.1
  ·exact flagged_plain ops l (k + 1) p hp r
theorem evalN_of_W {T : Tab} {W : List Nat} {N : Nat} {Q : AFr → Heap → Prop} : ∀ {l : List (LOper × Fl)} {fr : AFr} {H : Heap}, (∀ p ∈ l, ∀ r, p.2 ≠ .n r) → evalW T W N Q l fr H → evalN T W N Q l fr H
 | [], _, _, _, h => h
 | (o, fl) :: r, fr, H, hl, h => by
  simp only [evalW] at h
  simp only [evalN, evalX_plain (hl (o, fl) (by simp))]
  cases hv : evalV T o fr H with
  | none => rw [hv] at h; exact h.elim
  | some p =>
   rw [hv] at h
   exact ⟨h.1, evalN_of_W (fun q hq => hl q (by simp [hq])) h.2⟩
def exitOf : LExit → Exit
 | .normal => .normal
 | .exit id => .exit id
 | .ret => .ret
def LQ (base : Prot) (ds : List Deferred) (n : Nat) (c : Ctx) (w : World) (Q : LExit → AFr → Heap → Prop) : Exit → Act → World → Prop :=
 fun e a' w' => ∃ le fr' H' c', Q le fr' H' ∧ exitOf le = e ∧ Step c w c' w' ∧ Inv base c' H' w' ∧ Sim n c' fr' a' ∧ a'.defers = ds
theorem LQ.step {ds : List Deferred} {n : Nat} {c c1 : Ctx} {w w1 : World} {Q : LExit → AFr → Heap → Prop} {e : Exit} {a' : Act} {w' : World} (s : Step c w c1 w1) (h : LQ base ds n c1 w1 Q e a' w') : LQ base ds n c w Q e a' w' := by
 obtain ⟨le, fr', H', c', q, he, s', i', m', d'⟩ := h
 exact ⟨le, fr', H', c', q, he, s.trans s', i', m', d'⟩
section
variable {gl : Nat → AVal} {n : Nat}
def lowCodeB (P : Program) (gl : Nat → AVal) (n : Nat) (pn : Bool) : Code → LCode
 | .skip => .skip
 | .region _ ops draw => if draw then (if ops.toList.any (fun o => turnsOp (lowOp P gl n o.op)) then (if (pn && (decide (0 < rankOf P gl n ops ops.size) && drawOkW P gl n true ops)) = true then .regionN (rankOf P gl n ops ops.size) (flagged P gl n true ops 0 ops.toList) else
   if drawOkW P gl n false ops then .regionW (flagged P gl n false ops 0 ops.toList) else if drawOkW P gl n true ops then .regionN (rankOf P gl n ops ops.size) (flagged P gl n true ops 0 ops.toList) else .bad) else if drawOk P gl n ops then .regionD (ops.toList.map (lowOper P gl n ops)) else .bad) else .region (ops.toList.map (lowOper P gl n ops))
 | .seq a b => .seq (lowCodeB P gl n pn a) (lowCodeB P gl n pn b)
 | .cond c a b => .cond (lowOpd gl n c) (lowCodeB P gl n pn a) (lowCodeB P gl n pn b)
 | .block id b => .block id (lowCodeB P gl n pn b)
 | .loop b => .loop (lowCodeB P gl n pn b)
 | .exit id => .exit id
 | .ret => .ret
 | _ => .bad
theorem lowCodeB_false : ∀ c : Code, lowCodeB P gl n false c = lowCode P gl n c
 | .region _ ops draw => by unfold lowCodeB lowCode; rfl
 | .seq a b => by simp only [lowCodeB, lowCode, lowCodeB_false a, lowCodeB_false b]
 | .cond c a b => by simp only [lowCodeB, lowCode, lowCodeB_false a, lowCodeB_false b]
 | .block id b => by simp only [lowCodeB, lowCode, lowCodeB_false b]
 | .loop b => by simp only [lowCodeB, lowCode, lowCodeB_false b]
 | .skip => rfl
 | .exit _ => rfl
 | .ret => rfl
 | .rangeFunc _ _ _ _ => rfl
 | .scope _ => rfl
 | .label _ => rfl
 | .goto _ => rfl
 | .refuse _ => rfl
theorem code_soundB {pn : Bool} {ds : List Deferred} {T : Tab} (hm : P.follows .mixedOrders = true) (hT : TabOk P base T) (hg : GlobOk base gl) : ∀ (code : Code) (Q : LExit → AFr → Heap → Prop) (c : Ctx) (H : Heap) (w : World) (fr : AFr) (a : Act),
  Inv base c H w → Sim n c fr a → a.defers = ds → vc T (lowCodeB P gl n pn code) Q fr H → code.wp P (LQ base ds n c w Q) a w
 | .skip, Q, c, H, w, fr, a, hI, hs, hd, h => wp_skip ⟨.normal, fr, H, c, h, rfl, .refl _ _, hI, hs, hd⟩
 | .region id ops draw, Q, c, H, w, fr, a, hI, hs, hd, h => by
  simp only [lowCodeB] at h
  split at h
  ·rename_i hdr
   subst hdr
   have hN : drawOkW P gl n true ops = true → vc T (.regionN (rankOf P gl n ops ops.size) (flagged P gl n true ops 0 ops.toList)) Q fr H → (Code.region id ops true).wp P (LQ base ds n c w Q) a w := by
    intro hok h
    simp only [vc] at h
    obtain ⟨W, h⟩ := h
    unfold drawOkW at hok
    have hA := anyB_lex ops (T := T) (W := W) (N := H.length) ops.toList 0 (Array.replicate ops.size false) fr _ (fun x o _ hL => by rw [Array.getD_eq_getD_getElem?] at hL; rw [Array.getElem?_replicate] at hL; split at hL <;> cases hL) (by simp) (by simp) (by simpa using hok) h
    obtain ⟨c0, s0, i0⟩ := hI.keepN (rankOf P gl n ops ops.size)
    refine wp_region_any hm (wpAny_of_anyB ops hT hg (b := true) (c := c) (w := w) (W := W) (N := H.length) (Q := fun fr' H' => Q .normal fr' H') (fun fr' H' c' w' a' s' i' m' d' q => ⟨.normal, fr', H', c', q, rfl, s', i', m', d'⟩) _ _ fr _ c0 { w with drawn := w.drawn + 1 } a (s0.trans ((Grew.drew w).step c0)) (i0.grew (Grew.drew w)) ((hs.step s0).step ((Grew.drew w).step c0)) hd ?_)
    simpa using hA
   split at h
   ·split at h
    ·rename_i hpn
     simp only [Bool.and_eq_true] at hpn
     exact hN hpn.2.2 h
    split at h
    ·rename_i hok
     simp only [vc] at h
     obtain ⟨W, h⟩ := h
     unfold drawOkW at hok
     have h' := evalN_of_W (flagged_plain ops ops.toList 0) h
     have hA := anyB_lex ops (T := T) (W := W) (N := H.length) ops.toList 0 (Array.replicate ops.size false) fr H (fun x o _ hL => by rw [Array.getD_eq_getD_getElem?] at hL; rw [Array.getElem?_replicate] at hL; split at hL <;> cases hL) (by simp) (by simp) (by simpa using hok) h'
     refine wp_region_any hm (wpAny_of_anyB ops hT hg (b := false) (c := c) (w := w) (W := W) (N := H.length) (Q := fun fr' H' => Q .normal fr' H') (fun fr' H' c' w' a' s' i' m' d' q => ⟨.normal, fr', H', c', q, rfl, s', i', m', d'⟩) _ _ fr H c { w with drawn := w.drawn + 1 } a ((Grew.drew w).step c) (hI.grew (Grew.drew w)) (hs.step ((Grew.drew w).step c)) hd ?_)
     simpa using hA
    split at h
    case isFalse => exact absurd h (fun h => by simp [vc] at h)
    rename_i hok
    exact hN hok h
   split at h
   ·rename_i hok
    simp only [vc] at h
    unfold drawOk at hok
    have hA := anyA_lex ops (T := T) (H := H) ops.toList 0 (Array.replicate ops.size false) fr (by simp) (by simpa using hok) h
    refine wp_region_any hm (wpAny_of_anyA ops hT hg (c := c) (w := w) (Q := fun fr' => Q .normal fr' H) (fun fr' c' w' a' s' i' m' d' q => ⟨.normal, fr', H, c', q, rfl, s', i', m', d'⟩) _ _ fr c { w with drawn := w.drawn + 1 } a ((Grew.drew w).step c) (hI.grew (Grew.drew w)) (hs.step ((Grew.drew w).step c)) hd ?_)
    simpa using hA
   ·exact absurd h (fun h => by simp [vc] at h)
  ·rename_i hdr
   have hdraw : draw = false := by simpa using hdr
   subst hdraw
   simp only [vc] at h
   cases he : evalL T (ops.toList.map (lowOper P gl n ops)) fr H with
   | none => rw [he] at h; exact h.elim
   | some r =>
    obtain ⟨fr', H'⟩ := r
    rw [he] at h
    refine wp_region ?_
    have := ops_sound hT hg ops (LQ base ds n c w Q) ops.toList 0 (by simp) c H w fr a fr' H' hI hs he (fun c' w' a' s' i' m' d' => ⟨.normal, fr', H', c', h, rfl, s', i', m', d'.trans hd⟩)
    rw [List.range_eq_range']
    simpa using this
 | .seq x y, Q, c, H, w, fr, a, hI, hs, hd, h => by
  simp only [lowCodeB, vc] at h
  refine wp_seq (wp_mono (code_soundB hm hT hg x _ c H w fr a hI hs hd h) fun e a' w' hq => ?_)
  obtain ⟨le, fr', H', c', q, he, s', i', m', d'⟩ := hq
  subst he
  cases le with
  | normal => exact wp_mono (code_soundB hm hT hg y Q c' H' w' fr' a' i' m' d' q) fun e a2 w2 hq2 => hq2.step s'
  | exit id => exact ⟨.exit id, fr', H', c', q, rfl, s', i', m', d'⟩
  | ret => exact ⟨.ret, fr', H', c', q, rfl, s', i', m', d'⟩
 | .cond cc x y, Q, c, H, w, fr, a, hI, hs, hd, h => by
  simp only [lowCodeB, vc] at h
  have rc := opd_ok hg hs hI.base cc
  split at h
  case h_3 => exact h.elim
  case h_2 =>
   rename_i hc
   rw [hc] at rc
   have hv : ∃ t, a.eval cc = .bool t := by
    generalize a.eval cc = v at rc
    cases rc with | anyb t => exact ⟨t, rfl⟩
   obtain ⟨t, hv⟩ := hv
   refine wp_cond hv ?_
   cases t with
   | true => simp only [if_true]; exact code_soundB hm hT hg x Q c H w fr a hI hs hd h.1
   | false => simp only [Bool.false_eq_true, if_false]; exact code_soundB hm hT hg y Q c H w fr a hI hs hd h.2
  rename_i t hc
  rw [hc] at rc
  have hv : a.eval cc = .bool t := by
   generalize a.eval cc = v at rc
   cases rc with | p _ _ rc => cases rc; rfl
  refine wp_cond hv ?_
  cases t with
  | true => simp only [if_true] at h ⊢; exact code_soundB hm hT hg x Q c H w fr a hI hs hd h
  | false => simp only [Bool.false_eq_true, if_false] at h ⊢; exact code_soundB hm hT hg y Q c H w fr a hI hs hd h
 | .block id x, Q, c, H, w, fr, a, hI, hs, hd, h => by
  simp only [lowCodeB, vc] at h
  refine wp_block (wp_mono (code_soundB hm hT hg x _ c H w fr a hI hs hd h) fun e a' w' hq => ?_)
  obtain ⟨le, fr', H', c', q, he, s', i', m', d'⟩ := hq
  subst he
  cases le with
  | normal => exact ⟨.normal, fr', H', c', q, rfl, s', i', m', d'⟩
  | exit j =>
   simp only [blockQ] at q
   simp only [exitOf, Exit.inBlock]
   split at q
   ·rename_i hj; rw [if_pos hj]; exact ⟨.normal, fr', H', c', q, rfl, s', i', m', d'⟩
   ·rename_i hj; rw [if_neg hj]; exact ⟨.exit j, fr', H', c', q, rfl, s', i', m', d'⟩
  | ret => exact ⟨.ret, fr', H', c', q, rfl, s', i', m', d'⟩
 | .loop x, Q, c, H, w, fr, a, hI, hs, hd, h => by
  simp only [lowCodeB, vc] at h
  obtain ⟨I, μ, h0, hround⟩ := h
  refine wp_loop_ghost (fun m a' w' => ∃ fr' H' c', I fr' H' ∧ μ fr' H' = m ∧ Step c w c' w' ∧ Inv base c' H' w' ∧ Sim n c' fr' a' ∧ a'.defers = ds) (μ fr H) ⟨fr, H, c, h0, rfl, .refl _ _, hI, hs, hd⟩ ?_
  rintro m a1 w1 ⟨fr1, H1, c1, hI1, rfl, s1, i1, m1, d1⟩
  refine wp_mono (code_soundB hm hT hg x _ c1 H1 w1 fr1 a1 i1 m1 d1 (hround fr1 H1 hI1)) fun e a' w' hq => ?_
  obtain ⟨le, fr', H', c', q, he, s', i', m', d'⟩ := hq
  subst he
  cases le with
  | normal => exact ⟨μ fr' H', q.2, fr', H', c', q.1, rfl, s1.trans s', i', m', d'⟩
  | exit id => exact ⟨.exit id, fr', H', c', q, rfl, s1.trans s', i', m', d'⟩
  | ret => exact ⟨.ret, fr', H', c', q, rfl, s1.trans s', i', m', d'⟩
 | .exit id, Q, c, H, w, fr, a, hI, hs, hd, h => wp_exit ⟨.exit id, fr, H, c, h, rfl, .refl _ _, hI, hs, hd⟩
 | .ret, Q, c, H, w, fr, a, hI, hs, hd, h => wp_ret ⟨.ret, fr, H, c, h, rfl, .refl _ _, hI, hs, hd⟩
 | .rangeFunc .., Q, c, H, w, fr, a, hI, hs, hd, h => absurd h (fun h => by simp [lowCodeB, vc] at h)
 | .scope _, Q, c, H, w, fr, a, hI, hs, hd, h => absurd h (fun h => by simp [lowCodeB, vc] at h)
 | .label _, Q, c, H, w, fr, a, hI, hs, hd, h => absurd h (fun h => by simp [lowCodeB, vc] at h)
 | .goto _, Q, c, H, w, fr, a, hI, hs, hd, h => absurd h (fun h => by simp [lowCodeB, vc] at h)
 | .refuse _, Q, c, H, w, fr, a, hI, hs, hd, h => absurd h (fun h => by simp [lowCodeB, vc] at h)
end
end Go.Abs

/-
 ABS, part Q: a contract out of a function's lowered code.
-/
namespace Go.Abs
variable {P : Program} {base : Prot}
def Fits (x : PVal) : Prop := ∃ pr v, PRep pr x v
theorem Fits.lst {es : List PVal} (h : Fits (.lst es)) : es.length ≤ maxLen ∧ ∀ e ∈ es, ∀ c ∈ e.cells, Fits c := by
 obtain ⟨pr, v, h⟩ := h
 cases h with
 | lst _ a len cap size blk off vals hl hc hm ha hs hp hr hk =>
  refine ⟨by omega, fun e he c hc => ?_⟩
  obtain ⟨i, hi, rfl⟩ := List.getElem_of_mem he
  obtain ⟨j, hj, rfl⟩ := List.getElem_of_mem hc
  exact ⟨pr, _, hr i es[i] j es[i].cells[j] (by simp) (by simp)⟩
theorem Fits.str {s : List UInt8} (h : Fits (.str s)) : s.length ≤ maxLen := by
 obtain ⟨pr, v, h⟩ := h
 cases h; assumption
theorem Fits.agg {l : List PVal} (h : Fits (.agg l)) : ∀ c ∈ l, Fits c := by
 obtain ⟨pr, v, h⟩ := h
 cases h with
 | agg _ vs hl hr hk =>
  intro c hc
  obtain ⟨j, hj, rfl⟩ := List.getElem_of_mem hc
  have hj' : j < vs.length := by omega
  exact ⟨pr, vs[j], hr j l[j] vs[j] (by simp) (by simp [hj'])⟩
section
variable {gl : Nat → AVal}
def resSem (a : Act) : ResultVar → Sem Value
 | .tmp t => pure (a.tmps.getD t undef)
 | .cell b t => do loadVar t (← asAddr (a.tmps.getD b undef))
theorem lowRes_run {c : Ctx} {H : Heap} {w : World} {n : Nat} {T : Tab} {fr : AFr} {a : Act} (hI : Inv base c H w) (hs : Sim n c fr a) : ∀ (rv : List ResultVar) (rs : List LRes) (xs : List AVal), mapO (lowRes P n) rv = some rs → mapO (resOne T fr H) rs = some xs →
  ∃ vs : List Value, (rv.mapM (resSem a)).run P w = Result.ok vs w ∧ RepL c xs vs
 | [], rs, xs, h1, h2 => by
  simp [mapO] at h1; subst h1; simp [mapO] at h2; subst h2
  exact ⟨[], by simp, .nil c⟩
 | r :: rv, rs, xs, h1, h2 => by
  simp only [mapO] at h1
  cases hr : lowRes P n r with
  | none => rw [hr] at h1; cases h1
  | some lr =>
   cases hm : mapO (lowRes P n) rv with
   | none => rw [hr, hm] at h1; cases h1
   | some rs' =>
    rw [hr, hm] at h1; cases h1
    simp only [mapO] at h2
    cases hx : resOne T fr H lr with
    | none => rw [hx] at h2; cases h2
    | some x =>
     cases hm2 : mapO (resOne T fr H) rs' with
     | none => rw [hx, hm2] at h2; cases h2
     | some xs' =>
      rw [hx, hm2] at h2; cases h2
      obtain ⟨vs, q1, q2⟩ := lowRes_run hI hs rv rs' xs' hm hm2
      have one : ∃ v, (resSem a r).run P w = .ok v w ∧ Rep c x v := by
       cases r with
       | tmp t =>
        simp only [lowRes] at hr
        split at hr
        case isFalse => cases hr
        rename_i ht
        cases hr
        simp only [resOne] at hx
        cases hx
        exact ⟨_, rfl, hs.2 t ht⟩
       | cell b t =>
        simp only [lowRes] at hr
        split at hr
        case isFalse => cases hr
        rename_i ht
        obtain ⟨hb, ht⟩ := ht
        cases hr
        obtain ⟨d, hd⟩ := Option.isSome_iff_exists.1 ht
        simp only [resOne] at hx
        cases hl : evalOp T (.load (sizeT P t) (isAggT P t) (.tmp b)) fr H with
        | none => rw [hl] at hx; cases hx
        | some r =>
         obtain ⟨x', H'⟩ := r
         rw [hl] at hx
         cases hx
         have hrep : Rep c (opd fr (.tmp b)) (a.tmps.getD b undef) := hs.2 b hb
         obtain ⟨v, h1, _, h2⟩ := load_ok' hI hd hrep hl
         refine ⟨v, ?_, h2⟩
         unfold resSem
         have : ∃ ad, a.tmps.getD b undef = .pointer (some ad) := by
          generalize a.tmps.getD b undef = va at h1
          cases va <;> simp [Instr.loadAt, Instr.sureAddr] at h1
          rename_i ad
          cases ad with
          | none => simp at h1
          | some ad => exact ⟨ad, rfl⟩
         obtain ⟨ad, hva⟩ := this
         rw [hva] at h1
         simp only [hva]
         simpa [Instr.loadAt, Instr.sureAddr, asAddr] using h1
      obtain ⟨v, h1, h2⟩ := one
      exact ⟨v :: vs, by simp [List.mapM_cons, h1, q1], .cons h2 q2⟩
def retQ (T : Tab) (rs : List LRes) (Q : AVal → Heap → Prop) : LExit → AFr → Heap → Prop
 | .exit _, _, _ => False
 | _, fr, H => match finish T rs fr H with | some r => Q r H | none => False
def lowFuncB (P : Program) (gl : Nat → AVal) (pn : Bool) (f : FuncId) : Option LFunc := match P.funcs[f]? with
 | some fn => if goodFn P f then match fn.body with
  | some code => match mapO (lowRes P fn.ntmps) fn.results.toList with
   | some rs => some ⟨fn.ntmps, rs, lowCodeB P gl fn.ntmps pn code⟩
   | none => none
  | none => none
  else none
 | none => none
theorem lowFuncB_false (f : FuncId) : lowFuncB P gl false f = lowFunc P gl f := by
 unfold lowFuncB lowFunc
 simp only [lowCodeB_false]
 rfl
theorem calls_of_vcB {pn : Bool} {T : Tab} (hm : P.follows .mixedOrders = true) (hT : TabOk P base T) (hg : GlobOk base gl) {f : FuncId} {lf : LFunc} (hl : lowFuncB P gl pn f = some lf) {args : List AVal} (hn : args.length ≤ lf.n) {H : Heap} {Q : AVal → Heap → Prop}
  {c : Ctx} {w : World} {vs : List Value} (hI : Inv base c H w) (hr : RepL c args vs)
  (h : (∀ x ∈ args, ∀ y, x = .p y → Fits y) → vc T lf.body (retQ T lf.results Q) (initFr args) H) :
  Calls P f vs.toArray w fun e w' => ∃ v r H' c', e = .returned v ∧ Q r H' ∧ Step c w c' w' ∧ Inv base c' H' w' ∧ Rep c' r v := by
 unfold lowFuncB at hl
 cases hf : P.funcs[f]? with
 | none => rw [hf] at hl; cases hl
 | some fn =>
  rw [hf] at hl
  simp only at hl
  split at hl
  case isFalse => cases hl
  cases hb : fn.body with
  | none => rw [hb] at hl; cases hl
  | some code =>
   rw [hb] at hl
   simp only at hl
   cases hrs : mapO (lowRes P fn.ntmps) fn.results.toList with
   | none => rw [hrs] at hl; cases hl
   | some rs =>
    rw [hrs] at hl; cases hl
    simp only at hn h
    have hlen : vs.length = args.length := hr.1
    have hfit : ∀ x ∈ args, ∀ y, x = .p y → Fits y := fun x hx y hy => by
     subst hy
     obtain ⟨j, hj, hxj⟩ := List.getElem_of_mem hx
     have := hr.2 j (.p y) (vs[j]'(by omega)) (by rw [List.getElem?_eq_getElem hj, hxj]) (by simp [hlen, hj])
     cases this with
     | p _ _ hp => exact ⟨_, _, hp⟩
    have hs : Sim fn.ntmps c (initFr args) { tmps := vs.toArray ++ Array.replicate (fn.ntmps - vs.toArray.size) undef, defers := [] } := by
     refine ⟨by simp; omega, fun i hi => ?_⟩
     unfold initFr
     by_cases hia : i < args.length
     ·have hiv : i < vs.length := by omega
      have : (vs.toArray ++ Array.replicate (fn.ntmps - vs.toArray.size) undef).getD i undef = vs[i] := by
       rw [Array.getD_eq_getD_getElem?, Array.getElem?_append_left (by simpa using hiv)]
       simp [hiv]
      rw [this, List.getElem?_eq_getElem hia]
      exact hr.2 i _ _ (by simp [hia]) (by simp [hiv])
     ·have : (vs.toArray ++ Array.replicate (fn.ntmps - vs.toArray.size) undef).getD i undef = undef := by
       rw [Array.getD_eq_getD_getElem?, Array.getElem?_append_right (by simp; omega), Array.getElem?_replicate]
       split <;> rfl
      rw [this, List.getElem?_eq_none (by omega)]
      exact .p _ _ (.tup [] [] rfl (by simp))
    refine calls_of_wp hf hb (wp_mono (code_soundB hm hT hg code _ c H w _ _ hI hs rfl (h hfit)) fun e a' w' hq => ?_)
    obtain ⟨le, fr', H2, c', q, he, s', i', m', d'⟩ := hq
    have fin : (match finish T rs fr' H2 with | some r => Q r H2 | none => False) → a'.defers = [] ∧ ∃ v, (results fn a'.tmps).run P w' = .ok v w' ∧ ∃ v' r H' c', Ending.returned v = .returned v' ∧ Q r H' ∧ Step c w c' w' ∧ Inv base c' H' w' ∧ Rep c' r v' := by
     intro hq0
     cases hfin : finish T rs fr' H2 with
     | none => rw [hfin] at hq0; exact hq0.elim
     | some r =>
     rw [hfin] at hq0
     simp only at hq0
     unfold finish at hfin
     cases hxs : mapO (resOne T fr' H2) rs with
     | none => rw [hxs] at hfin; cases hfin
     | some xs =>
      rw [hxs] at hfin
      obtain ⟨us, q1, q2⟩ := lowRes_run i' m' fn.results.toList rs xs hrs hxs
      have hres : (results fn a'.tmps).run P w' = .ok (if h : us.toArray.size = 1 then us.toArray[0] else .tuple us.toArray) w' := by
       unfold results
       have : (fn.results.mapM (resSem a')).run P w' = .ok us.toArray w' := by
        rw [Array.mapM_eq_mapM_toList]
        simp [q1]
       show ((fn.results.mapM (resSem a')) >>= _).run P w' = _
       rw [Sem.run_bind, this]
       rfl
      refine ⟨d', _, hres, _, r, H2, c', rfl, hq0, s', i', ?_⟩
      have hus := q2.1
      match xs, us, q2, hus, hfin with
      | [x], [u], q2, _, hfin => cases hfin; simpa using q2.2 0 _ u rfl rfl
      | [], [], q2, _, hfin => simp [allP] at hfin; subst hfin; exact .p _ _ (.tup [] [] rfl (by simp))
      | x :: y :: xs, u :: v :: us, q2, _, hfin =>
       have : ¬ (u :: v :: us).toArray.size = 1 := by simp
       rw [dif_neg this]
       simp only at hfin
       cases hps : allP (x :: y :: xs) with
       | none => rw [hps] at hfin; cases hfin; exact .tup _ _ q2.1 q2.2
       | some ps =>
        rw [hps] at hfin
        cases hfin
        rw [allP_some hps] at q2
        refine .p _ _ (.tup ps _ (by have := q2.1; simpa using this) (fun j a b h1 h2 => ?_))
        have := q2.2 j (.p a) b (by simp [h1]) h2
        cases this with
        | p _ _ h => exact h
    subst he
    cases le with
    | normal => exact fin q
    | exit id => exact q.elim
    | ret => exact fin q
theorem calls_of_vc {T : Tab} (hm : P.follows .mixedOrders = true) (hT : TabOk P base T) (hg : GlobOk base gl) {f : FuncId} {lf : LFunc} (hl : lowFunc P gl f = some lf) {args : List AVal} (hn : args.length ≤ lf.n) {H : Heap} {Q : AVal → Heap → Prop}
  {c : Ctx} {w : World} {vs : List Value} (hI : Inv base c H w) (hr : RepL c args vs)
  (h : (∀ x ∈ args, ∀ y, x = .p y → Fits y) → vc T lf.body (retQ T lf.results Q) (initFr args) H) :
  Calls P f vs.toArray w fun e w' => ∃ v r H' c', e = .returned v ∧ Q r H' ∧ Step c w c' w' ∧ Inv base c' H' w' ∧ Rep c' r v :=
 calls_of_vcB hm hT hg (pn := false) (by rw [lowFuncB_false]; exact hl) hn hI hr h
end
end Go.Abs

/-
 ABS, part R: tables of contracts, and the contract of a function of pure values.
-/
namespace Go.Abs
variable {P : Program} {base : Prot}
def FnOk (P : Program) (base : Prot) (f : FuncId) (s : List PVal → Option (AVal × Heap)) : Prop :=
 goodFn P f = true ∧ ∀ args r E, s args = some (r, E) → Spec P base f (args.map .p) [] r E
def Tab.none : Tab := ⟨fun _ _ => .none, fun _ _ _ => .none, fun _ _ => .none⟩
theorem Tab.none_ok : TabOk P base Tab.none where
 fn := fun f args r E h => by simp [Tab.none] at h
 mu := fun f args H r H' h => by simp [Tab.none] at h
 ex := fun f ps x h => by simp [Tab.none] at h
def Tab.with (T : Tab) (f : FuncId) (s : List PVal → Option (AVal × Heap)) : Tab :=
 ⟨fun g args => if g = f then s args else T.fn g args, T.mu, T.ex⟩
theorem Tab.with_ok {T : Tab} (hT : TabOk P base T) {f : FuncId} {s : List PVal → Option (AVal × Heap)} (h : FnOk P base f s) : TabOk P base (T.with f s) where
 fn := fun g args r E hf => by
  unfold Tab.with at hf
  simp only at hf
  split at hf
  case isTrue e => subst e; exact ⟨h.1, h.2 args r E hf⟩
  case isFalse => exact hT.fn g args r E hf
 mu := hT.mu
 ex := hT.ex
def Tab.ext (T : Tab) (f : FuncId) (s : List PVal → Option PVal) : Tab :=
 ⟨T.fn, T.mu, fun g args => if g = f then s args else T.ex g args⟩
theorem Tab.ext_ok {T : Tab} (hT : TabOk P base T) {f : FuncId} {s : List PVal → Option PVal} (h : ∀ ps x, s ps = some x → ExtOk P f ps x) : TabOk P base (T.ext f s) where
 fn := hT.fn
 mu := hT.mu
 ex := fun g ps x hf => by
  unfold Tab.ext at hf
  simp only at hf
  split at hf
  case isTrue e => subst e; exact h ps x hf
  case isFalse => exact hT.ex g ps x hf
def MuOk (P : Program) (base : Prot) (f : FuncId) (m : List AVal → Heap → Option (AVal × Heap)) : Prop :=
 goodFn P f = true ∧ ∀ args H r H', m args H = some (r, H') → Spec P base f args H r H'
def Tab.own (T : Tab) (f : FuncId) (m : List AVal → Heap → Option (AVal × Heap)) : Tab :=
 ⟨T.fn, fun g args H => if g = f then m args H else T.mu g args H, T.ex⟩
theorem Tab.own_ok {T : Tab} (hT : TabOk P base T) {f : FuncId} {m : List AVal → Heap → Option (AVal × Heap)} (h : MuOk P base f m) : TabOk P base (T.own f m) where
 fn := hT.fn
 mu := fun g args H r H' hf => by
  unfold Tab.own at hf
  simp only at hf
  split at hf
  case isTrue e => subst e; exact ⟨h.1, h.2 args H r H' hf⟩
  case isFalse => exact hT.mu g args H r H' hf
 ex := hT.ex
theorem goodFn_of_low {gl : Nat → AVal} {f : FuncId} {lf : LFunc} (h : lowFunc P gl f = some lf) : goodFn P f = true := by
 unfold lowFunc at h
 split at h
 ·split at h
  ·assumption
  ·cases h
 ·cases h
theorem let_go {c c' : Ctx} {w w' : World} {H' : Heap} {r : AVal} {v : Value} {x : PVal} (h0 : c.locs = []) (s : Step c w c' w') (i : Inv base c' H' w') (hr : Rep c' r v) (hx : resolveV H' fuel r = some x) :
  ∃ c1, Step c w c1 w' ∧ Inv base c1 [] w' ∧ Rep c1 (.p x) v := by
 obtain ⟨c2, e2, s2, i2, p2⟩ := i.freezeL (touchV H' fuel r)
 have same := same_freezeL (touchV H' fuel r) H'
 have hp : PRep c2.prot x v := by
  rw [resolve_same same] at hx
  refine resolve_ok i2 fuel r v x (hr.step s2) hx (fun k hk => ?_)
  rw [← touch_same same] at hk
  exact (p2 k hk).step rfl (fun _ _ _ h => h) (fun e he => freezeL_get _ H' k e he)
   (fun e l g cap a b d o ho => i.cell_at a (by rw [← e2]; exact b) d o ho)
 have st := s.trans s2
 refine ⟨⟨[], c2.prot⟩, ⟨st.prot, fun k l hl => ?_, st.os, st.tape, st.output, st.size, st.blk, fun b hb => ?_, st.newprot⟩, ⟨i2.base, rfl, i2.prot, fun k e l h => by simp at h, fun k k' l l' g cp cp' h => by simp at h⟩, .p _ _ hp⟩
 ·rw [h0] at hl; simp at hl
 ·obtain ⟨k, l, cap, hl, _⟩ := hb
  simp at hl
theorem pure_of_vc {gl : Nat → AVal} {T : Tab} (hm : P.follows .mixedOrders = true) (hT : TabOk P base T) (hg : GlobOk base gl) {f : FuncId} {lf : LFunc} (hl : lowFunc P gl f = some lf) {s : List PVal → Option PVal}
  (h : ∀ args x, s args = some x → (∀ y ∈ args, Fits y) → args.length ≤ lf.n ∧ vc T lf.body (endQ T lf.results x) (initFr (args.map .p)) []) : FnOk P base f (pureS s) := by
 refine ⟨goodFn_of_low hl, fun args r E hs c w vs hI hr => ?_⟩
 unfold pureS at hs
 cases hx : s args with
 | none => rw [hx] at hs; cases hs
 | some x =>
  rw [hx] at hs
  cases hs
  have hfit : ∀ y ∈ args, Fits y := fun y hy => by
   obtain ⟨j, hj, rfl⟩ := List.getElem_of_mem hy
   have hlen := hr.1
   simp only [List.length_map] at hlen
   have := hr.2 j (.p args[j]) (vs[j]'(by omega)) (by simp) (by simp [hlen, hj])
   cases this with
   | p _ _ hp => exact ⟨_, _, hp⟩
  have h0 : c.locs = [] := List.length_eq_zero_iff.1 (by rw [hI.len]; rfl)
  obtain ⟨hn, hv⟩ := h args x hx hfit
  have eQ : endQ T lf.results x = retQ T lf.results fun r H => resolveV H fuel r = some x := by
   funext e fr H
   cases e <;> simp only [endQ, retQ, finishP] <;> (cases finish T lf.results fr H <;> simp)
  rw [eQ] at hv
  refine (calls_of_vc hm hT hg hl (by simpa using hn) hI hr (fun _ => hv)).mono fun e w' ⟨v, r, H', c', he, hq, st, i', rp⟩ => ?_
  obtain ⟨c1, s1, i1, r1⟩ := let_go h0 st i' rp hq
  exact ⟨v, c1, he, s1, i1, r1⟩
theorem globNone : GlobOk base (fun _ => .junk) := fun _ _ _ => .junk _
theorem own_of_vc {gl : Nat → AVal} {T : Tab} (hm : P.follows .mixedOrders = true) (hT : TabOk P base T) (hg : GlobOk base gl) {f : FuncId} {lf : LFunc} (hl : lowFunc P gl f = some lf) {m : List AVal → Heap → Option (AVal × Heap)}
  (h : ∀ args H r H', m args H = some (r, H') → (∀ x ∈ args, ∀ y, x = .p y → Fits y) → args.length ≤ lf.n ∧ vc T lf.body (retQ T lf.results fun r2 H2 => r2 = r ∧ H2 = H') (initFr args) H) : MuOk P base f m := by
 refine ⟨goodFn_of_low hl, fun args H r H' hs c w vs hI hr => ?_⟩
 have hfit : ∀ x ∈ args, ∀ y, x = .p y → Fits y := fun x hx y hy => by
  subst hy
  obtain ⟨j, hj, hxj⟩ := List.getElem_of_mem hx
  have hlen := hr.1
  have := hr.2 j (.p y) (vs[j]'(by omega)) (by rw [List.getElem?_eq_getElem hj, hxj]) (by simp [hlen, hj])
  cases this with
  | p _ _ hp => exact ⟨_, _, hp⟩
 obtain ⟨hn, hv⟩ := h args H r H' hs hfit
 refine (calls_of_vc hm hT hg hl hn hI hr (fun _ => hv)).mono fun e w' ⟨v, r2, H2, c', he, hq, st, i', rp⟩ => ?_
 obtain ⟨rfl, rfl⟩ := hq
 exact ⟨v, c', he, st, i', rp⟩
end Go.Abs

/-
 ABS, part Y: the look whether a region's order may be the text's, done faster; the lowered code is the same.
-/
namespace Go.Abs
abbrev Oa (d : Nat) (x : LOp) : LOper := ⟨some d, none, x⟩
abbrev Ob (x : LOp) : LOper := ⟨none, none, x⟩
abbrev Oc (d s : Nat) (x : LOp) : LOper := ⟨some d, some (s, true), x⟩
abbrev Od (d s : Nat) (x : LOp) : LOper := ⟨some d, some (s, false), x⟩
abbrev Oe (s : Nat) (w : Bool) (x : LOp) : LOper := ⟨none, some (s, w), x⟩
abbrev Tm (n : Nat) : LOpd := .tmp n
def stepD (k : Nat) (l : LOper) : List (Oper × LOper) → Bool
 | [] => true
 | p :: r => ((p.1.after.any fun e => Region.binds .any e && e.on == k) || apartO l p.2) && stepD k l r
def fastD : Nat → List (Oper × LOper) → Bool
 | _, [] => true
 | k, p :: r => (p.1.after.all fun e => !Region.binds .any e || decide (e.on < k)) && stepD k p.2 r && fastD (k + 1) r
section
variable (P : Program) (gl : Nat → AVal) (n : Nat)
def lowCodeF : Code → LCode
 | .skip => .skip
 | .region _ ops draw => if draw then (if ops.toList.any (fun o => turnsOp (lowOp P gl n o.op)) then (if drawOkW P gl n false ops then .regionW (flagged P gl n false ops 0 ops.toList) else if drawOkW P gl n true ops then .regionN (rankOf P gl n ops ops.size) (flagged P gl n true ops 0 ops.toList) else .bad)
   else if fastD 0 (ops.toList.map fun o => (o, lowOper P gl n ops o)) then .regionD (ops.toList.map (lowOper P gl n ops)) else if drawOk P gl n ops then .regionD (ops.toList.map (lowOper P gl n ops)) else .bad) else .region (ops.toList.map (lowOper P gl n ops))
 | .seq a b => .seq (lowCodeF a) (lowCodeF b)
 | .cond c a b => .cond (lowOpd gl n c) (lowCodeF a) (lowCodeF b)
 | .block id b => .block id (lowCodeF b)
 | .loop b => .loop (lowCodeF b)
 | .exit id => .exit id
 | .ret => .ret
 | _ => .bad
theorem stepD_ok {k : Nat} {l : LOper} : ∀ {r : List (Oper × LOper)}, stepD k l r = true → ∀ p ∈ r, ((p.1.after.any fun e => Region.binds .any e && e.on == k) || apartO l p.2) = true
 | [], _, q, hq => by simp at hq
 | p :: r, h, q, hq => by
  simp only [stepD, Bool.and_eq_true] at h
  rcases List.mem_cons.1 hq with rfl | hq
  ·exact h.1
  ·exact stepD_ok h.2 q hq
theorem lexOk_fast (ops : Array Oper) : ∀ (m k : Nat) (listed : Array Bool), k + m = ops.size → listed.size = ops.size → (∀ j, j < ops.size → listed.getD j true = decide (j < k)) →
  (∀ j, listed.getD j false = true ↔ j < k ∧ j < ops.size) →
  fastD k ((ops.toList.drop k).map fun o => (o, lowOper P gl n ops o)) = true → lexOk P gl n ops m k listed = true
 | 0, k, listed, hk, hs, ht, hf, _ => by
  unfold lexOk
  rw [List.isEmpty_iff]
  unfold Region.ready
  rw [List.filter_eq_nil_iff]
  intro i hi
  have hi' : i < ops.size := List.mem_range.1 hi
  rw [ht i hi', decide_eq_true (by omega)]
  simp
 | m + 1, k, listed, hk, hs, ht, hf, h => by
  have hkl : k < ops.size := by omega
  have hkl' : k < ops.toList.length := by simpa using hkl
  rw [List.drop_eq_getElem_cons hkl', List.map_cons] at h
  simp only [fastD, Bool.and_eq_true] at h
  obtain ⟨⟨h1, h2⟩, h3⟩ := h
  have hok : ops[k]? = some ops[k] := Array.getElem?_eq_getElem hkl
  unfold lexOk
  simp only [Bool.and_eq_true]
  refine ⟨⟨?_, ?_⟩, lexOk_fast ops m (k + 1) _ (by omega) (by simpa using hs) (fun j hj => ?_) (fun j => ?_) h3⟩
  ·rw [List.contains_iff_mem]
   unfold Region.ready
   rw [List.mem_filter]
   refine ⟨List.mem_range.2 hkl, ?_⟩
   rw [ht k hkl, decide_eq_false (by omega), hok]
   simp only [Bool.not_false, Option.map_some, Option.getD_some, Bool.true_and]
   rw [Array.all_eq_true'] at h1 ⊢
   intro e he
   have := h1 e (by simpa using he)
   cases hb : Region.binds .any e with
   | false => rfl
   | true =>
    rw [hb] at this
    simp only [Bool.not_true, Bool.false_or, decide_eq_true_eq] at this ⊢
    exact (hf e.on).2 ⟨this, by omega⟩
  ·unfold freeAt
   rw [List.all_eq_true]
   intro j hj
   have hj' : j < ops.size := List.mem_range.1 hj
   rw [ht j hj']
   by_cases hjk : j = k
   ·simp [hjk]
   ·by_cases hlt : j < k
    ·simp [hlt]
    ·have hoj : ops[j]? = some ops[j] := Array.getElem?_eq_getElem hj'
     have hm : (ops[j], lowOper P gl n ops ops[j]) ∈ (ops.toList.drop (k + 1)).map fun o => (o, lowOper P gl n ops o) := by
      refine List.mem_map.2 ⟨ops[j], ?_, rfl⟩
      rw [List.mem_iff_getElem?]
      refine ⟨j - (k + 1), ?_⟩
      rw [List.getElem?_drop, show k + 1 + (j - (k + 1)) = j by omega, Array.getElem?_toList]
      exact hoj
     have := stepD_ok h2 _ hm
     simp only [Bool.or_eq_true] at this
     rw [hoj, hok]
     simp only [Option.map_some, Option.getD_some, Bool.or_eq_true]
     rcases this with h | h
     ·exact .inl (.inr h)
     ·exact .inr (by simpa using h)
  ·rw [Array.getD_eq_getD_getElem?, Array.getElem?_setIfInBounds]
   by_cases hjk : k = j
   ·subst hjk
    rw [if_pos rfl, if_pos (by omega)]
    simp
   ·rw [if_neg hjk, ← Array.getD_eq_getD_getElem?, ht j hj]
    exact decide_eq_decide.2 (by omega)
  ·rw [Array.getD_eq_getD_getElem?, Array.getElem?_setIfInBounds]
   by_cases hjk : k = j
   ·subst hjk
    rw [if_pos rfl, if_pos (by omega)]
    simp; omega
   ·rw [if_neg hjk, ← Array.getD_eq_getD_getElem?, hf j]
    omega
theorem drawOk_fast (ops : Array Oper) (h : fastD 0 (ops.toList.map fun o => (o, lowOper P gl n ops o)) = true) : drawOk P gl n ops = true := by
 unfold drawOk
 refine lexOk_fast P gl n ops ops.size 0 _ (by omega) (by simp) (fun j hj => ?_) (fun j => ?_) h
 ·simp [Array.getD_eq_getD_getElem?, hj]
 ·rw [Array.getD_eq_getD_getElem?, Array.getElem?_replicate]
  split <;> simp
theorem lowCodeF_eq : ∀ c : Code, lowCodeF P gl n c = lowCode P gl n c
 | .region _ ops draw => by
  unfold lowCodeF lowCode
  by_cases h : fastD 0 (ops.toList.map fun o => (o, lowOper P gl n ops o)) = true
  ·rw [if_pos h, if_pos (drawOk_fast P gl n ops h)]
  ·rw [if_neg h]
 | .seq a b => by simp only [lowCodeF, lowCode, lowCodeF_eq a, lowCodeF_eq b]
 | .cond c a b => by simp only [lowCodeF, lowCode, lowCodeF_eq a, lowCodeF_eq b]
 | .block id b => by simp only [lowCodeF, lowCode, lowCodeF_eq b]
 | .loop b => by simp only [lowCodeF, lowCode, lowCodeF_eq b]
 | .skip => rfl
 | .exit _ => rfl
 | .ret => rfl
 | .rangeFunc _ _ _ _ => rfl
 | .scope _ => rfl
 | .label _ => rfl
 | .goto _ => rfl
 | .refuse _ => rfl
end
section
variable (P : Program) (gl : Nat → AVal) (n : Nat)
end
variable {P : Program} {gl : Nat → AVal}
def lowFuncF (P : Program) (gl : Nat → AVal) (f : FuncId) : Option LFunc := match P.funcs[f]? with
 | some fn => if goodFn P f then match fn.body with
  | some code => match mapO (lowRes P fn.ntmps) fn.results.toList with
   | some rs => some ⟨fn.ntmps, rs, lowCodeF P gl fn.ntmps code⟩
   | none => none
  | none => none
  else none
 | none => none
theorem lowF {f : FuncId} {lf : LFunc} (h : lowFuncF P gl f = some lf) : lowFunc P gl f = some lf := by
 rw [← h]
 unfold lowFunc lowFuncF
 simp only [lowCodeF_eq]
 rfl
end Go.Abs
