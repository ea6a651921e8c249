/-
  A library of the prover's own, part 2: operations, regions in open order, code and functions. No conditions.
-/
import Derived.Test.YtgbjjikaenlkmaaGreatAbsOne
import Derived.ChangeKeysEq
import Derived.MapKept
import Derived.Deep.LoopGhost
set_option linter.unusedSimpArgs false
set_option linter.unnecessarySimpa false
set_option linter.unusedVariables false
set_option linter.constructorNameAsVariable false

namespace Go.Abs
variable {P : Program} {base : Prot}
theorem cpy_ok {T : Tab} {c : Ctx} {H : zb} {w : World} (hI : Inv base c H w) {fr : AFr} {t e : TypeId} (ht : P.underlying t = some (.slice e)) (hel : zh P e ≠ 0) {lx ly : LOpd} {vx vy : Value}
  (rx : Rep c (opd fr lx) vx) (ry : Rep c (opd fr ly) vy) {ty : TypeId} {x : AVal} {H' : zb} (h : zn T (.cpy (zh P e) lx ly) fr H = some (x, H')) :
  Done P base (Builtin.copy_ #[t, t] ty #[vx, vy]) c w x H' := by
 obtain ⟨d, hd⟩ := qv hel
 simp only [zn] at h
 cases hy0 : jO H (opd fr ly) with
 | none => rw [hy0] at h; cases h
 | some ys =>
  rw [hy0] at h
  obtain ⟨hy, hstr⟩ := gp hy0
  simp only at h
  split at h
  case isFalse => cases h
  rename_i hc
  obtain ⟨hys, hpos⟩ := hc
  have hys' : ∀ y ∈ ys, y.cells.length = zh P e ∧ ∀ z ∈ y.cells, z.isCell = true := fun y hy => by
   have := List.all_eq_true.1 hys y hy
   simp only [Bool.and_eq_true, beq_iff_eq] at this
   exact ⟨this.1, zS this.2⟩
  obtain ⟨a, cp, news, rfl, hcp, hcpm, hels⟩ := hU hI ry hy hstr hys'
  split at h
  case h_2 => cases h
  rename_i k off len ver hx
  rw [hx] at rx
  cases hk : H[k]? with
  | none => rw [hk] at h; cases h
  | some en =>
   rw [hk] at h
   simp only at h
   split at h
   case isFalse => cases h
   rename_i hc
   obtain ⟨hver, hes, hfz, hle, hlpos⟩ := hc
   cases h
   obtain ⟨l, hl, he, hv⟩ := vU hI rx hk hver
   -- what is read
   have hread : ∀ n, n ≤ ys.length → (Builtin.firstCells (zh P e) n (.slice a ys.length cp)).run P w = .ok (news.take (n * zh P e)).toArray w := by
    intro n hn
    by_cases hne : ys = []
    ·subst hne
     have hn0 : n = 0 := by simpa using hn
     subst hn0
     cases a <;> simp [Builtin.firstCells, loadCells, loadCellsFrom]
    ·obtain ⟨blk, off', ha, hcell⟩ := hels.addr hne
     subst ha
     refine run_firstCells_some (P := P) w (zh P e) n _ ys.length cp (news.take (n * zh P e)) ?_ (fun j v hj => ?_)
     ·have := Nat.mul_le_mul_right (zh P e) hn
      rw [List.length_take, hels.len]; omega
     ·rw [List.getElem?_take] at hj
      split at hj
      ·rw [yw]; exact hcell j v hj
      ·cases hj
   have hmin : Nat.min ys.length len ≤ ys.length := Nat.min_le_left _ _
   have htake : ys.take len = ys.take (min ys.length len) := by
    by_cases h : ys.length ≤ len
    ·rw [Nat.min_eq_left h, List.take_of_length_le h, List.take_of_length_le (Nat.le_refl _)]
    ·rw [Nat.min_eq_right (by omega)]
   have hnl : (news.take (min ys.length len * zh P e)).length = min ys.length len * zh P e := by
    have := Nat.mul_le_mul_right (zh P e) hmin
    have e1 : Nat.min ys.length len = min ys.length len := rfl
    rw [e1] at this
    rw [List.length_take, hels.len]; omega
   unfold OwnVal at hv
   cases hp : l.place with
   | none =>
    simp only [hp] at hv
    obtain ⟨_, b, _, _, h0⟩ := hv
    omega
   | some q =>
    obtain ⟨g, cap⟩ := q
    simp only [hp] at hv
    obtain ⟨hmp, b, cq, rfl, q2, q3, q4, q5⟩ := hv
    obtain ⟨cur, ty', a1, a2, a3, a4, a5, a6⟩ := he.there g cap hp hmp
    have hbound : off * zh P e + min ys.length len * zh P e ≤ cur.size := by
     rw [← Nat.add_mul, a2, hes]
     exact Nat.mul_le_mul_right _ (by have := Nat.min_le_right ys.length len; omega)
    have hbl : off * zh P e + (news.take (min ys.length len * zh P e)).length ≤ cur.toList.length := by rw [hnl]; simpa using hbound
    have hlen' : (en.elems.take off ++ ys.take len ++ en.elems.drop (off + min ys.length len)).length = en.elems.length := by
     rw [htake]; simp; omega
    obtain ⟨c', hs, hI'⟩ := hI.setCells hk hl hp hfz a1 a2 a3 (cur.toList.take (off * zh P e) ++ news.take (min ys.length len * zh P e) ++ cur.toList.drop (off * zh P e + (news.take (min ys.length len * zh P e)).length)).toArray
     (by rw [List.size_toArray, ve _ _ _ hbl]; rfl) (en.elems.take off ++ ys.take len ++ en.elems.drop (off + min ys.length len)) hlen' (fun y hy => by
      rcases List.mem_append.1 hy with h1 | h1
      ·rcases List.mem_append.1 h1 with h2 | h2
       ·exact he.cells hmp y (List.mem_of_mem_take h2)
       ·rw [hes]; exact hys' y (List.mem_of_mem_take h2)
      ·exact he.cells hmp y (List.mem_of_mem_drop h1)) (fun i' y j u hy hu => by
      have hyl : (ys.take (min ys.length len)).length = min ys.length len := by simp
      rw [htake] at hy
      have hsp := qu en.elems (ys.take (min ys.length len)) off (by rw [hyl]; have := Nat.min_le_right ys.length len; omega) i'
      rw [hyl] at hsp
      rw [hsp] at hy
      rw [List.getElem?_toArray, qu _ _ _ hbl, hnl, hes]
      by_cases hin : off ≤ i' ∧ i' < off + min ys.length len
      ·rw [if_pos hin] at hy
       rw [List.getElem?_take, if_pos (by omega)] at hy
       obtain ⟨v, r1, r2⟩ := hels.rep (i' - off) y j u hy hu
       have hj : j < zh P e := by rw [← (hys' y (List.mem_of_getElem? hy)).1]; exact (List.getElem?_eq_some_iff.1 hu).1
       have hlt : (i' - off) * zh P e + j < min ys.length len * zh P e := bc (by omega) hj
       have hidx : i' * zh P e + j = off * zh P e + ((i' - off) * zh P e + j) := by
        have : i' = off + (i' - off) := by omega
        conv => lhs; rw [this, Nat.add_mul]
        omega
       refine ⟨v, ?_, r2⟩
       rw [hidx, if_pos (by omega), Nat.add_sub_cancel_left, List.getElem?_take, if_pos hlt]
       exact r1
      ·rw [if_neg hin] at hy
       obtain ⟨v, r1, r2⟩ := a5 i' y j u hy hu
       have hj : j < zh P e := by rw [← hes, ← (he.cells hmp y (List.mem_of_getElem? hy)).1]; exact (List.getElem?_eq_some_iff.1 hu).1
       refine ⟨v, ?_, r2⟩
       rw [if_neg (by
        intro hcon
        by_cases h1 : i' < off
        ·have := bc h1 hj; omega
        ·have h2 : (off + min ys.length len) * zh P e ≤ i' * zh P e := Nat.mul_le_mul_right _ (by omega)
         rw [Nat.add_mul] at h2
         omega)]
       rw [hes] at r1
       simpa using r1)
    refine ⟨_, _, c', ?_, hs, hI', .p _ _ (.int _ _)⟩
    have hr := hread (min ys.length len) hmin
    obtain ⟨rfl, rfl⟩ := q5 (.inl hlpos)
    have hst := run_storeCells_at P g (off * zh P e) ty' (news.take (min ys.length len * zh P e)) 0 cur w a1 (by rw [Nat.add_zero]; simpa using hbl) (fun v hv => hels.one v (List.mem_of_mem_take hv))
    simp only [Nat.add_zero] at hst
    rw [he.size, hes]
    have hr' : (Builtin.firstCells (zh P e) (Nat.min ys.length len) (.slice a ys.length cp)).run P w = _ := hr
    have hgo : (goInt (Nat.min ys.length len : Nat) : Value) = .int .i64 (min ys.length len : Nat) := rfl
    unfold Builtin.copy_
    simp [run_underlying ht, Builtin.lenOf, qy hd, hr', hst]
    show Value.int .i64 ((min ys.length len : Nat) : Int) = _
    congr 1; omega
theorem clr_ok {T : Tab} {c : Ctx} {H : zb} {w : World} (hI : Inv base c H w) {fr : AFr} {t e : TypeId} (ht : P.underlying t = some (.slice e)) (hel : zh P e ≠ 0) (hzz : (qb P e).cells.length = zh P e) (hzk : (qb P e).cells.all AVal.isCell = true) {lx : LOpd} {vx : Value}
  (rx : Rep c (opd fr lx) vx) {ty : TypeId} {x : AVal} {H' : zb} (h : zn T (.clr (zh P e) (qb P e) lx) fr H = some (x, H')) :
  Done P base (Builtin.clear_ #[t] ty #[vx]) c w x H' := by
 obtain ⟨i, z, hi, hz, hze⟩ := yc hzk
 obtain ⟨d, hd⟩ := qv hel
 have rz := (vq c z).cells (zS (by rw [← hze]; exact hzk))
 have hzs : z.cells.size = zh P e := by have := rz.1.1; rw [← hze] at this; simp at this; omega
 simp only [zn] at h
 split at h
 case h_2 => cases h
 rename_i k off len ver hx
 rw [hx] at rx
 cases hk : H[k]? with
 | none => rw [hk] at h; cases h
 | some en =>
  rw [hk] at h
  simp only at h
  split at h
  case isFalse => cases h
  rename_i hc
  obtain ⟨hver, hes, hfz, hle, hlpos⟩ := hc
  cases h
  obtain ⟨l, hl, he, hv⟩ := vU hI rx hk hver
  unfold OwnVal at hv
  cases hp : l.place with
  | none =>
   simp only [hp] at hv
   obtain ⟨_, b, _, _, h0⟩ := hv
   omega
  | some q =>
   obtain ⟨g, cap⟩ := q
   simp only [hp] at hv
   obtain ⟨hmp, b, cq, rfl, q2, q3, q4, q5⟩ := hv
   obtain ⟨cur, ty', a1, a2, a3, a4, a5, a6⟩ := he.there g cap hp hmp
   obtain ⟨news, hnews⟩ : ∃ news, news = (Builtin.zeroCells z.cells len).toList := ⟨_, rfl⟩
   have hnl : news.length = len * zh P e := by rw [hnews, Array.length_toList, size_zeroCells, hzs]
   have hget : ∀ i' j, i' < len → j < zh P e → news[i' * zh P e + j]? = z.cells[j]? := fun i' j h1 h2 => by
    have hm := gP z.cells (zh P e) len i' j hzs h2 h1
    rw [hnews, Array.getElem?_toList, show Builtin.zeroCells z.cells len = madeCells z.cells (len * zh P e) by rw [← hzs]; rfl, hm]
    simp [hzs, h2]
   have hones : ∀ v ∈ news, v.oneCell' = true := fun v hv => by
    obtain ⟨q, hq1, hq2⟩ := List.getElem_of_mem hv
    have hs0 : 0 < zh P e := Nat.pos_of_ne_zero hel
    have h2 : q % zh P e < zh P e := Nat.mod_lt _ hs0
    have h1 : q / zh P e < len := Nat.div_lt_of_lt_mul (by rw [Nat.mul_comm, ← hnl]; exact hq1)
    have hg := hget (q / zh P e) (q % zh P e) h1 h2
    rw [Nat.mul_comm, Nat.div_add_mod, List.getElem?_eq_getElem hq1, hq2] at hg
    exact rz.ones v (List.mem_of_getElem? (by rw [Array.getElem?_toList]; exact hg.symm))
   have hbound : off * zh P e + len * zh P e ≤ cur.size := by
    rw [← Nat.add_mul, a2, hes]
    exact Nat.mul_le_mul_right _ (by omega)
   have hbl : off * zh P e + news.length ≤ cur.toList.length := by rw [hnl]; simpa using hbound
   have hrl : (List.replicate len (qb P e)).length = len := by simp
   have hlen' : (en.elems.take off ++ List.replicate len (qb P e) ++ en.elems.drop (off + len)).length = en.elems.length := by
    simp; omega
   obtain ⟨c', hs, hI'⟩ := hI.setCells hk hl hp hfz a1 a2 a3 (cur.toList.take (off * zh P e) ++ news ++ cur.toList.drop (off * zh P e + news.length)).toArray
    (by rw [List.size_toArray, ve _ _ _ hbl]; rfl) (en.elems.take off ++ List.replicate len (qb P e) ++ en.elems.drop (off + len)) hlen' (fun y hy => by
     rcases List.mem_append.1 hy with h1 | h1
     ·rcases List.mem_append.1 h1 with h2 | h2
      ·exact he.cells hmp y (List.mem_of_mem_take h2)
      ·rw [hes, (List.mem_replicate.1 h2).2]; exact ⟨hzz, zS hzk⟩
     ·exact he.cells hmp y (List.mem_of_mem_drop h1)) (fun i' y j u hy hu => by
     have hsp := qu en.elems (List.replicate len (qb P e)) off (by rw [hrl]; omega) i'
     rw [hrl] at hsp
     rw [hsp] at hy
     rw [List.getElem?_toArray, qu _ _ _ hbl, hnl, hes]
     by_cases hin : off ≤ i' ∧ i' < off + len
     ·rw [if_pos hin] at hy
      rw [List.getElem?_replicate, if_pos (by omega)] at hy
      cases hy
      have hj : j < zh P e := by rw [← hzz]; exact (List.getElem?_eq_some_iff.1 hu).1
      have hlt : (i' - off) * zh P e + j < len * zh P e := bc (by omega) hj
      have hidx : i' * zh P e + j = off * zh P e + ((i' - off) * zh P e + j) := by
       have : i' = off + (i' - off) := by omega
       conv => lhs; rw [this, Nat.add_mul]
       omega
      have hzj : z.cells[j]? = some z.cells[j] := Array.getElem?_eq_getElem (by omega)
      refine ⟨z.cells[j], ?_, ?_⟩
      ·rw [hidx, if_pos (by omega), Nat.add_sub_cancel_left, hget _ _ (by omega) hj, hzj]
      ·have h1 := rz.1.2 j u _ (by rw [← hze]; exact hu) (by rw [Array.getElem?_toList]; exact hzj)
       exact h1
     ·rw [if_neg hin] at hy
      obtain ⟨v, r1, r2⟩ := a5 i' y j u hy hu
      have hj : j < zh P e := by rw [← hes, ← (he.cells hmp y (List.mem_of_getElem? hy)).1]; exact (List.getElem?_eq_some_iff.1 hu).1
      refine ⟨v, ?_, r2⟩
      rw [if_neg (by
       intro hcon
       by_cases h1 : i' < off
       ·have := bc h1 hj; omega
       ·have h2 : (off + len) * zh P e ≤ i' * zh P e := Nat.mul_le_mul_right _ (by omega)
        rw [Nat.add_mul] at h2
        omega)]
      rw [hes] at r1
      simpa using r1)
   refine ⟨_, _, c', ?_, hs, hI', .p _ _ (.tup [] [] rfl (by simp))⟩
   obtain ⟨rfl, rfl⟩ := q5 (.inl hlpos)
   have hst := run_storeCells_at P g (off * zh P e) ty' news 0 cur w a1 (by rw [Nat.add_zero]; simpa using hbl) hones
   simp only [Nat.add_zero] at hst
   rw [he.size, hes]
   obtain ⟨m, rfl⟩ : ∃ m, len = m + 1 := ⟨len - 1, by omega⟩
   unfold Builtin.clear_
   simp [run_underlying ht, zeroValue, typeInfo, hi, hz, hst, ← hnews]
theorem s2b_ok {T : Tab} {c : Ctx} {H : zb} {w : World} (hI : Inv base c H w) {fr : AFr} {s t e : TypeId} (hs : P.underlying s = some .string) (ht : P.underlying t = some (.slice e)) (he : P.underlying e = some (.int .u8)) {lx : LOpd} {vx : Value}
  (rx : Rep c (opd fr lx) vx) {x : AVal} {H' : zb} (h : zn T (.conv .s2b lx) fr H = some (x, H')) : Done P base (convert s t vx) c w x H' := by
 simp only [zn] at h
 split at h
 case h_2 => cases h
 rename_i b hx
 cases h
 rw [hx] at rx
 cases rx with
 | p _ _ hp =>
  cases hp with
  | str _ hb =>
   have hsz : (⟨b.toArray⟩ : ByteArray).size = b.length := by simp [ByteArray.size]
   have hrun := run_bytes_of_string (P := P) w s t e ⟨b.toArray⟩ hs ht he
   generalize hcap : grownCap w (⟨b.toArray⟩ : ByteArray).size 0 e = cap at hrun
   have hge : b.length ≤ cap := by rw [← hcap, hsz]; exact grownCap_ge w _ _ _
   have hcm : cap ≤ maxLen := by rw [← hcap, hsz]; exact grownCap_le_maxLen w _ _ _ hb
   generalize hrow : bytesRow ⟨b.toArray⟩ cap = row at hrun
   have hget : ∀ j (hj : j < b.length), row[j]? = some (.int .u8 b[j].toNat) := by
    intro j hj
    rw [← hrow]
    unfold bytesRow
    rw [Array.getElem?_append_left (by simpa using hj)]
    simp [hj]
   have hg := (Grew.drew w).alloc (.cells row e (row.size, row.size + 1))
   have hheap : (w.drew.alloc (.cells row e (row.size, row.size + 1))).heap[w.heap.size]? = some (.cells row e (row.size, row.size + 1)) := heap_alloc_new w.drew _
   let pr : Prot := fun g o => if g = w.heap.size then (if o < b.length then row[o]? else none) else c.prot g o
   have hpr : ∀ o, o < b.length → pr w.heap.size o = row[o]? := fun o ho => by simp [pr, ho]
   obtain ⟨hs', hI'⟩ := hI.promise hg pr (fun g o v hv => by
     have : g ≠ w.heap.size := fun h => by have := hI.prot_lt hv; omega
     simp only [pr, if_neg this]; exact hv) (fun g o v hv => by
     by_cases hgw : g = w.heap.size
     ·subst hgw
      simp only [pr, if_true] at hv
      split at hv
      ·right
       refine ⟨Nat.le_refl _, ?_⟩
       rw [cell_of_row _ _ _ _ _ _ hheap]; exact hv
      ·cases hv
     ·simp only [pr, if_neg hgw] at hv
      exact .inl hv)
   refine ⟨_, _, _, hrun, hs', hI', ?_⟩
   rw [hsz]
   refine .p _ _ (.lst _ _ _ _ 1 w.heap.size 0 (fun i j => (row[i]?).getD undef) (by simp) hge hcm (fun _ => rfl) (fun y hy => ?_) (fun i j hi hj => ?_) (fun i y j z hy hz => ?_) (fun y hy z hz => ?_))
   ·obtain ⟨u, _, rfl⟩ := List.mem_map.1 hy; rfl
   ·have hi' : i < b.length := by simpa using hi
    have : j = 0 := by omega
    subst this
    show pr _ _ = _
    rw [show 0 + i * 1 + 0 = i from by omega, hpr i hi', hget i hi', Option.getD_some]
   ·rw [List.getElem?_map] at hy
    obtain ⟨u, hu, rfl⟩ := Option.map_eq_some_iff.1 hy
    have hi' : i < b.length := (List.getElem?_eq_some_iff.1 hu).1
    have hu2 : b[i] = u := (List.getElem?_eq_some_iff.1 hu).2
    rw [hget i hi', Option.getD_some, hu2]
    cases j with
    | zero => simp [PVal.cells] at hz; subst hz; exact .int _ _
    | succ j => simp [PVal.cells] at hz
   ·obtain ⟨u, _, rfl⟩ := List.mem_map.1 hy
    simp [PVal.cells] at hz; subst hz; rfl
theorem mh : ∀ {es : List AVal} {bs : List UInt8}, bytesOf es = some bs → ∃ ns : List Int, es = ns.map (fun n => .p (.int .u8 n)) ∧ bs = ns.map fun n => UInt8.ofNat n.toNat
 | [], bs, h => by simp [bytesOf] at h; subst h; exact ⟨[], rfl, rfl⟩
 | x :: r, bs, h => by
  unfold bytesOf at h
  split at h
  ·cases h; rename_i h1; cases h1
  ·rename_i n r' heq
   cases heq
   cases hr : bytesOf r with
   | none => rw [hr] at h; cases h
   | some bs' =>
    rw [hr] at h; cases h
    obtain ⟨ns, rfl, rfl⟩ := mh hr
    exact ⟨n :: ns, rfl, rfl⟩
  ·cases h
theorem foldl_push (ns : List Int) : ∀ acc : List UInt8, ns.foldl (fun (r : ByteArray) n => r.push (UInt8.ofNat n.toNat)) ⟨acc.toArray⟩ = ⟨(acc ++ ns.map fun n => UInt8.ofNat n.toNat).toArray⟩ := by
 induction ns with
 | nil => intro acc; simp
 | cons n ns ih =>
  intro acc
  simp only [List.foldl_cons, List.map_cons]
  have : (⟨acc.toArray⟩ : ByteArray).push (UInt8.ofNat n.toNat) = ⟨(acc ++ [UInt8.ofNat n.toNat]).toArray⟩ := by
   unfold ByteArray.push
   simp
  rw [this, ih]
  simp
theorem b2s_ok {T : Tab} {c : Ctx} {H : zb} {w : World} (hI : Inv base c H w) {fr : AFr} {s t e : TypeId} (hs : P.underlying s = some (.slice e)) (ht : P.underlying t = some .string) (he : P.underlying e = some (.int .u8)) {lx : LOpd} {vx : Value}
  (rx : Rep c (opd fr lx) vx) {x : AVal} {H' : zb} (h : zn T (.conv .b2s lx) fr H = some (x, H')) : Done P base (convert s t vx) c w x H' := by
 simp only [zn] at h
 split at h
 ·cases h
 rename_i hns
 cases hy : jX H (opd fr lx) with
 | none => rw [hy] at h; cases h
 | some ys =>
  rw [hy] at h
  simp only at h
  cases hb : bytesOf ys with
  | none => rw [hb] at h; cases h
  | some bs =>
   rw [hb] at h; cases h
   obtain ⟨ns, rfl, rfl⟩ := mh hb
   obtain ⟨a, cp, vs, rfl, h1, h2, hel⟩ := hU hI rx hy (fun s h => hns s h) (size := 1) (fun y hy => by
    obtain ⟨n, _, rfl⟩ := List.mem_map.1 hy
    exact ⟨rfl, fun z hz => by simp [AVal.cells, PVal.cells] at hz; subst hz; rfl⟩)
   have hlen : ns.length ≤ maxLen := by simp at h1; omega
   have hfin : ∀ v, v = .string (ns.foldl (fun r n => r.push (UInt8.ofNat n.toNat)) ByteArray.empty) → Rep c (.p (.str (ns.map fun n => UInt8.ofNat n.toNat))) v := by
    intro v hv
    subst hv
    have := foldl_push ns []
    rw [List.nil_append] at this
    have he : (ByteArray.empty : ByteArray) = ⟨([] : List UInt8).toArray⟩ := rfl
    rw [he, this]
    exact .p _ _ (.str _ (by simpa using hlen))
   have hconv : (convert s t (.slice a (ns.map fun n => AVal.p (.int .u8 n)).length cp)).run P w = (Conv.bytesToString (.slice a (ns.map fun n => AVal.p (.int .u8 n)).length cp)).run P w := by
    simp [convert, run_underlying hs, run_underlying ht, run_underlying he]
   by_cases hne : ns = []
   ·subst hne
    refine .still hI (v := .string ByteArray.empty) ?_ (hfin _ rfl)
    rw [hconv]
    cases a with
    | none => rfl
    | some a => simpa using run_bytesToString (P := P) w a 0 cp [] (by simp [loadCells, loadCellsFrom])
   ·obtain ⟨blk, off, ha, hcell⟩ := hel.addr (by simpa using hne)
    subst ha
    refine .still hI ?_ (hfin _ rfl)
    rw [hconv]
    have hvs : vs = ns.map (Value.int .u8) := by
     apply List.ext_getElem?
     intro i
     by_cases hi : i < ns.length
     ·obtain ⟨v, r1, r2⟩ := hel.rep i (.p (.int .u8 ns[i])) 0 (.p (.int .u8 ns[i])) (by simp [hi]) rfl
      rw [Nat.mul_one, Nat.add_zero] at r1
      rw [r1]
      cases r2 with
      | p _ _ hp => cases hp; simp [hi]
     ·rw [List.getElem?_eq_none (by have := hel.len; simp at this; omega), List.getElem?_eq_none (by simp; omega)]
    have := run_bytesToString (P := P) w ⟨blk, off, none⟩ ns.length cp ns (by
     have hl := run_loadCells_list (P := P) w ⟨blk, off, none⟩ (ns.map (Value.int .u8)) (fun j v hj => by rw [yw]; rw [← hvs] at hj; exact hcell j v hj)
     simpa using hl)
    simpa using this
end Go.Abs

namespace Go.Abs
variable {P : Program} {base : Prot}
theorem gH (w : World) (d : Nat) : ∀ (fs : List Field) (ks : List SK) (xs ys : List Value) (s : Nat) (as bs : List PVal) (t : Bool) (pr : Prot), (∀ f ∈ fs, f.name ≠ "_") → fs.map (·.offset) = (List.range' s fs.length) →
  zP (fun f => vA P f.type) fs = some ks → wF ks as bs = some t → (∀ (j : Nat) a v, as[j]? = some a → xs[s + j]? = some v → PRep pr a v) → (∀ (j : Nat) b v, bs[j]? = some b → ys[s + j]? = some v → PRep pr b v) →
  s + as.length = xs.length → s + bs.length = ys.length → (Op.eqFields (d + 1) xs.toArray ys.toArray fs).run P w = .ok t w
 | [], ks, xs, ys, s, as, bs, t, pr, _, _, hk, he, _, _, _, _ => by
  simp [zP] at hk
  subst hk
  cases as <;> cases bs <;> simp [wF] at he
  subst he
  simp [Op.eqFields]
 | f :: fs, ks, xs, ys, s, as, bs, t, pr, hn, ho, hk, he, ha, hb, la, lb => by
  simp only [zP] at hk
  cases hsk : vA P f.type with
  | none => simp [hsk] at hk
  | some k =>
   cases hm : zP (fun f => vA P f.type) fs with
   | none => simp [hsk, hm] at hk
   | some ks' =>
    simp [hsk, hm] at hk
    subst hk
    cases as with
    | nil => cases bs <;> simp [wF] at he
    | cons a as =>
     cases bs with
     | nil => simp [wF] at he
     | cons b bs =>
      simp only [wF] at he
      cases hc : ng k a b with
      | none => rw [hc] at he; cases he
      | some r =>
       rw [hc] at he
       simp only at he
       cases hcs : wF ks' as bs with
       | none => rw [hcs] at he; cases he
       | some r' =>
        rw [hcs] at he; cases he
        simp only [List.length_cons] at la lb
        have hxs : s < xs.length := by omega
        have hys : s < ys.length := by omega
        have ra := ha 0 a xs[s] rfl (by simp [hxs])
        have rb := hb 0 b ys[s] rfl (by simp [hys])
        simp only [List.map_cons, List.length_cons, List.range'_succ, List.cons.injEq] at ho
        obtain ⟨ho1, ho2⟩ := ho
        have ih := gH w d fs ks' xs ys (s + 1) as bs r' pr (fun f hf => hn f (by simp [hf])) ho2 hm hcs (fun j a v h1 h2 => ha (j + 1) a v (by simpa using h1) (by rw [← Nat.add_assoc, Nat.add_right_comm]; exact h2))
         (fun j b v h1 h2 => hb (j + 1) b v (by simpa using h1) (by rw [← Nat.add_assoc, Nat.add_right_comm]; exact h2)) (by omega) (by omega)
        have hnf : f.name ≠ "_" := hn f (by simp)
        -- the field's type, and the two cells
        have hag : qY P f.type = false := by
         unfold vA at hsk
         unfold qY
         cases hu : P.underlying f.type with
         | none => rfl
         | some d => cases d <;> simp [hu] at hsk ⊢
        have hcell : (Op.equalIn (d + 1) f.type xs[s] ys[s]).run P w = .ok r w := by
         unfold vA at hsk
         cases hu : P.underlying f.type with
         | none => simp [hu] at hsk
         | some dd =>
          cases dd <;> simp [hu] at hsk <;> subst hsk <;> cases a <;> cases b <;> simp [ng] at hc
          ·subst hc
           cases hra : xs[s] <;> rw [hra] at ra <;> cases ra
           cases hrb : ys[s] <;> rw [hrb] at rb <;> cases rb
           exact run_equalIn_bool' w d f.type _ _ hu
          ·obtain ⟨rfl, rfl⟩ := hc
           cases hra : xs[s] <;> rw [hra] at ra <;> cases ra
           cases hrb : ys[s] <;> rw [hrb] at rb <;> cases rb
           exact run_equalIn_int w d f.type _ _ _ _ hu
          ·subst hc
           cases hra : xs[s] <;> rw [hra] at ra <;> cases ra
           cases hrb : ys[s] <;> rw [hrb] at rb <;> cases rb
           rw [run_equalIn_string w d f.type _ _ hu]
           simp
        have hd : ∃ dd, P.underlying f.type = some dd := by
         unfold vA at hsk
         cases hu : P.underlying f.type with
         | none => simp [hu] at hsk
         | some dd => exact ⟨dd, rfl⟩
        obtain ⟨dd, hd⟩ := hd
        have hp : ∀ vs : List Value, (h : s < vs.length) → (part f.type vs.toArray f.offset).run P w = .ok vs[s] w := fun vs h => by
         unfold part
         rw [ho1]
         simp [cD hd, hag, h]
        simp only [Op.eqFields, hnf, ne_eq, not_false_eq_true, if_true, Sem.run_bind, hp xs hxs, hp ys hys, Result.andThen_ok, hcell]
        cases r with
        | true => simpa using ih
        | false => simp
end Go.Abs
namespace Go.Abs
variable {P : Program} {base : Prot}
theorem bm {T : Tab} {c : Ctx} {H : zb} {w : World} (hI : Inv base c H w) {fr : AFr} {op : BinOp} {t : TypeId} {ox oy : Operand} {lx ly : LOpd} {vx vy : Value} (rx : Rep c (opd fr lx) vx) (ry : Rep c (opd fr ly) vy)
  {x : AVal} {H' : zb} (h : zn T (.bin op lx ly) fr H = some (x, H')) : Done P base (do eqGuard op t ox oy vx vy; binOp op t vx vy) c w x H' := by
 simp only [zn] at h
 cases hb : binV op (opd fr lx) (opd fr ly) with
 | none => rw [hb] at h; cases h
 | some p =>
  rw [hb] at h; cases h
  have fin : ∀ v, (∀ cs, vx ≠ .agg cs) → vx ≠ .nilIface → (binOp op t vx vy).run P w = .ok v w → (∀ pr, PRep pr p v) → Done P base (do eqGuard op t ox oy vx vy; binOp op t vx vy) c w (.p p) H := fun v h1 h2 h3 h4 =>
   .still hI (v := v) (by simp [Sem.run_bind, vm h1 h2, h3]) (.p _ _ (h4 _))
  generalize hx : opd fr lx = ax at *
  generalize hy : opd fr ly = ay at *
  unfold binV at hb
  split at hb
  ·rename_i k a k' b
   cases rx with | p _ _ rx => cases rx; cases ry with | p _ _ ry => cases ry; (
    split at hb
    ·obtain ⟨v, h1, h2⟩ := lF op k k' a b t p hb w
     exact fin v (by simp) (by simp) h1 h2
    ·split at hb
     ·rename_i hk; subst hk
      obtain ⟨v, h1, h2⟩ := binI_run op k a b t p hb w
      exact fin v (by simp) (by simp) h1 h2
     ·cases hb)
  ·rename_i a b
   cases rx with | p _ _ rx => cases rx; cases ry with | p _ _ ry => cases ry; (
    obtain ⟨v, h1, h2⟩ := binS_run op a b t p hb w
    exact fin v (by simp) (by simp) h1 h2)
  ·rename_i k a k' b
   cases rx with | p _ _ rx => cases rx; cases ry with | p _ _ ry => cases ry; (
    split at hb
    ·rename_i hk; subst hk
     obtain ⟨v, h1, h2⟩ := binF_run op k a b t p hb w
     exact fin v (by simp) (by simp) h1 h2
    ·cases hb)
  ·rename_i k a b k' c d
   cases rx with | p _ _ rx => cases rx; cases ry with | p _ _ ry => cases ry; (
    split at hb
    ·rename_i hk; subst hk
     obtain ⟨v, h1, h2⟩ := binC_run op k a b c d t p hb w
     exact fin v (by simp) (by simp) h1 h2
    ·cases hb)
  ·cases hb
theorem eqB_ok {T : Tab} {c : Ctx} {H : zb} {w : World} (hI : Inv base c H w) {fr : AFr} {op : BinOp} {neg : Bool} (hop : op = if neg then .neq else .eql) {t : TypeId} (ht : P.underlying t = some .bool) {ox oy : Operand} {lx ly : LOpd} {vx vy : Value} (rx : Rep c (opd fr lx) vx) (ry : Rep c (opd fr ly) vy)
  {x : AVal} {H' : zb} (h : zn T (.eqB neg lx ly) fr H = some (x, H')) : Done P base (do eqGuard op t ox oy vx vy; binOp op t vx vy) c w x H' := by
 simp only [zn] at h
 split at h
 case h_2 => cases h
 rename_i a b hx hy
 cases h
 rw [hx] at rx
 rw [hy] at ry
 cases rx with | p _ _ rx => cases rx; cases ry with | p _ _ ry => cases ry; (
  refine .still hI (v := .bool ((a == b) != neg)) ?_ (.p _ _ (.bool _))
  subst hop
  cases neg <;> simp [Sem.run_bind, vm, binOp, Op.equal, Op.maxDepth, run_equalIn_bool' w _ t a b ht])
theorem eqSt_ok {T : Tab} {c : Ctx} {H : zb} {w : World} (hI : Inv base c H w) {fr : AFr} {op : BinOp} {neg : Bool} (hop : op = if neg then .neq else .eql) {t : TypeId} {ks : List SK} (ht : flatS P t = some ks) {ox oy : Operand} {lx ly : LOpd} {vx vy : Value} (rx : Rep c (opd fr lx) vx) (ry : Rep c (opd fr ly) vy)
  {x : AVal} {H' : zb} (h : zn T (.eqA neg ks lx ly) fr H = some (x, H')) : Done P base (do eqGuard op t ox oy vx vy; binOp op t vx vy) c w x H' := by
 simp only [zn] at h
 split at h
 case h_2 => cases h
 rename_i as bs hx hy
 cases he : wF ks as bs with
 | none => rw [he] at h; cases h
 | some r =>
  rw [he] at h; cases h
  rw [hx] at rx
  rw [hy] at ry
  cases rx with | p _ _ rx => cases rx with | agg _ vs la ra ka => cases ry with | p _ _ ry => cases ry with | agg _ us lb rb kb => (
   unfold flatS at ht
   split at ht
   case h_2 => cases ht
   rename_i fields hu
   split at ht
   case isFalse => cases ht
   rename_i hc
   simp only [Bool.and_eq_true, Bool.not_eq_true', List.all_eq_true, bne_iff_ne, beq_iff_eq] at hc
   obtain ⟨⟨⟨hs, hn⟩, ho⟩, hg⟩ := hc
   have hfo : P.fieldsOf t = fields := by simp [Program.fieldsOf, hu]
   have hlen : fields.size = fields.toList.length := by simp
   have hrun := gH (P := P) w 9998 fields.toList ks vs us 0 as bs r c.prot hn (by rw [ho, hlen, List.range_eq_range']) ht he (fun j a v h1 h2 => ra j a v h1 (by simpa using h2)) (fun j b v h1 h2 => rb j b v h1 (by simpa using h2)) (by omega) (by omega)
   have heq := run_equalIn_struct (P := P) w 9999 t vs.toArray us.toArray (by rw [hfo]; exact hu) hs
   rw [hfo] at heq
   refine .still hI (v := .bool (r != neg)) ?_ (.p _ _ (.bool _))
   subst hop
   cases neg with
   | false =>
    simp only [Bool.false_eq_true, if_false, Sem.run_bind, run_eqGuard_agg w .eql t ox oy _ _ hg, Result.andThen_ok, run_eql_struct, heq, hrun]
    simp
   | true =>
    simp only [if_true, Sem.run_bind, run_eqGuard_agg w .neq t ox oy _ _ hg, Result.andThen_ok, run_neq_struct, heq, hrun]
    simp)
theorem fF (w : World) (d : Nat) {t : TypeId} {k : SK} (hsk : vA P t = some k) {a b : PVal} {r : Bool} (hc : ng k a b = some r) {pr : Prot} {va vb : Value} (ra : PRep pr a va) (rb : PRep pr b vb) : (Op.equalIn (d + 1) t va vb).run P w = .ok r w := by
 unfold vA at hsk
 cases hu : P.underlying t with
 | none => simp [hu] at hsk
 | some dd =>
  cases dd <;> simp [hu] at hsk <;> subst hsk <;> cases a <;> cases b <;> simp [ng] at hc
  ·subst hc
   cases ra; cases rb
   exact run_equalIn_bool' w d t _ _ hu
  ·obtain ⟨rfl, rfl⟩ := hc
   cases ra; cases rb
   exact run_equalIn_int w d t _ _ _ _ hu
  ·subst hc
   cases ra; cases rb
   rw [run_equalIn_string w d t _ _ hu]
   simp
theorem nM (w : World) (d : Nat) {e : TypeId} {k : SK} (hsk : vA P e = some k) (xs ys : List Value) {pr : Prot} : ∀ (n s : Nat) (as bs : List PVal) (t : Bool), wF (List.replicate n k) as bs = some t →
  (∀ (j : Nat) a v, as[j]? = some a → xs[s + j]? = some v → PRep pr a v) → (∀ (j : Nat) b v, bs[j]? = some b → ys[s + j]? = some v → PRep pr b v) → s + as.length = xs.length → s + bs.length = ys.length →
  (Op.eqItems (d + 1) e 1 xs.toArray ys.toArray (List.range' s n)).run P w = .ok t w
 | 0, s, as, bs, t, he, _, _, _, _ => by
  cases as <;> cases bs <;> simp [wF] at he
  subst he
  simp [Op.eqItems]
 | n + 1, s, as, bs, t, he, ha, hb, la, lb => by
  cases as with
  | nil => cases bs <;> simp [List.replicate_succ, wF] at he
  | cons a as =>
   cases bs with
   | nil => simp [List.replicate_succ, wF] at he
   | cons b bs =>
    simp only [List.replicate_succ, wF] at he
    cases hc : ng k a b with
    | none => rw [hc] at he; cases he
    | some r =>
     rw [hc] at he
     simp only at he
     cases hcs : wF (List.replicate n k) as bs with
     | none => rw [hcs] at he; cases he
     | some r' =>
      rw [hcs] at he; cases he
      simp only [List.length_cons] at la lb
      have hxs : s < xs.length := by omega
      have hys : s < ys.length := by omega
      have ra := ha 0 a xs[s] rfl (by simp [hxs])
      have rb := hb 0 b ys[s] rfl (by simp [hys])
      have ih := nM w d hsk xs ys n (s + 1) as bs r' hcs (fun j a v h1 h2 => ha (j + 1) a v (by simpa using h1) (by rw [← Nat.add_assoc, Nat.add_right_comm]; exact h2))
       (fun j b v h1 h2 => hb (j + 1) b v (by simpa using h1) (by rw [← Nat.add_assoc, Nat.add_right_comm]; exact h2)) (by omega) (by omega)
      have hd : ∃ dd, P.underlying e = some dd := by
       unfold vA at hsk
       cases hu : P.underlying e with
       | none => simp [hu] at hsk
       | some dd => exact ⟨dd, rfl⟩
      obtain ⟨dd, hd⟩ := hd
      have hag : qY P e = false := by
       unfold vA at hsk
       unfold qY
       rw [hd] at hsk ⊢
       cases dd <;> simp at hsk ⊢
      have hp : ∀ vs : List Value, (h : s < vs.length) → (part e vs.toArray (s * 1)).run P w = .ok vs[s] w := fun vs h => by
       unfold part
       simp [cD hd, hag, h]
      simp only [List.range'_succ, Op.eqItems, Sem.run_bind, hp xs hxs, hp ys hys, Result.andThen_ok, fF w d hsk hc ra rb]
      cases r with
      | true => simpa using ih
      | false => simp
theorem eqAr_ok {T : Tab} {c : Ctx} {H : zb} {w : World} (hI : Inv base c H w) {fr : AFr} {op : BinOp} {neg : Bool} (hop : op = if neg then .neq else .eql) {t : TypeId} {ks : List SK} (ht : flatR P t = some ks) {ox oy : Operand} {lx ly : LOpd} {vx vy : Value} (rx : Rep c (opd fr lx) vx) (ry : Rep c (opd fr ly) vy)
  {x : AVal} {H' : zb} (h : zn T (.eqA neg ks lx ly) fr H = some (x, H')) : Done P base (do eqGuard op t ox oy vx vy; binOp op t vx vy) c w x H' := by
 simp only [zn] at h
 split at h
 case h_2 => cases h
 rename_i as bs hx hy
 cases he : wF ks as bs with
 | none => rw [he] at h; cases h
 | some r =>
  rw [he] at h; cases h
  rw [hx] at rx
  rw [hy] at ry
  cases rx with | p _ _ rx => cases rx with | agg _ vs la ra ka => cases ry with | p _ _ ry => cases ry with | agg _ us lb rb kb => (
   unfold flatR at ht
   split at ht
   case h_2 => cases ht
   rename_i len e hu
   split at ht
   case isFalse => cases ht
   rename_i hc
   simp only [Bool.and_eq_true, Bool.not_eq_true', beq_iff_eq] at hc
   obtain ⟨hg, h1⟩ := hc
   cases hsk : vA P e with
   | none => rw [hsk] at ht; cases ht
   | some k =>
    rw [hsk] at ht; cases ht
    have hi : ∃ i, P.info? e = some i := by
     cases hi : P.info? e with
     | none => simp [Program.cellsOf, hi] at h1
     | some i => exact ⟨i, rfl⟩
    obtain ⟨i, hi⟩ := hi
    have hrun := nM (P := P) w 9998 hsk vs us (pr := c.prot) len 0 as bs r he (fun j a v h1 h2 => ra j a v h1 (by simpa using h2)) (fun j b v h1 h2 => rb j b v h1 (by simpa using h2)) (by omega) (by omega)
    have heq := run_equalIn_array (P := P) (w := w) 9999 vs.toArray us.toArray hu hi
    rw [h1, List.range_eq_range'] at heq
    refine .still hI (v := .bool (r != neg)) ?_ (.p _ _ (.bool _))
    subst hop
    cases neg with
    | false =>
     simp only [Bool.false_eq_true, if_false, Sem.run_bind, run_eqGuard_agg w .eql t ox oy _ _ hg, Result.andThen_ok, run_eql_struct, heq, hrun]
     simp
    | true =>
     simp only [if_true, Sem.run_bind, run_eqGuard_agg w .neq t ox oy _ _ hg, Result.andThen_ok, run_neq_struct, heq, hrun]
     simp)
theorem eqA_ok {T : Tab} {c : Ctx} {H : zb} {w : World} (hI : Inv base c H w) {fr : AFr} {op : BinOp} {neg : Bool} (hop : op = if neg then .neq else .eql) {t : TypeId} {ks : List SK} (ht : flatK P t = some ks) {ox oy : Operand} {lx ly : LOpd} {vx vy : Value} (rx : Rep c (opd fr lx) vx) (ry : Rep c (opd fr ly) vy)
  {x : AVal} {H' : zb} (h : zn T (.eqA neg ks lx ly) fr H = some (x, H')) : Done P base (do eqGuard op t ox oy vx vy; binOp op t vx vy) c w x H' := by
 unfold flatK at ht
 split at ht
 ·rename_i ks' h1
  cases ht
  exact eqSt_ok hI hop h1 rx ry h
 ·exact eqAr_ok hI hop ht rx ry h
end Go.Abs

namespace Go.Abs
variable {P : Program} {base : Prot}
theorem vT (w : World) (d : Nat) {t e : TypeId} (ht : P.underlying t = some (.pointer e)) (a : Option Addr) : (Op.equalIn (d + 1) t (.pointer a) (.pointer none)).run P w = .ok a.isNone w := by
 cases a <;> simp only [Op.equalIn, Sem.run_bind, run_underlying ht, Result.andThen_ok] <;> rfl
theorem uO (w : World) (d : Nat) {t : TypeId} {a b : Array TypeId} {v : Bool} (ht : P.underlying t = some (.func a b v)) (fn : Fn) (x y : Array Value) : (Op.equalIn (d + 1) t (.func fn x y) .nilFunc).run P w = .ok false w := by
 simp only [Op.equalIn, Sem.run_bind, run_underlying ht, Result.andThen_ok]; rfl
theorem bL (w : World) (d : Nat) {t : TypeId} {a b : Array TypeId} {v : Bool} (ht : P.underlying t = some (.func a b v)) : (Op.equalIn (d + 1) t .nilFunc .nilFunc).run P w = .ok true w := by
 simp only [Op.equalIn, Sem.run_bind, run_underlying ht, Result.andThen_ok]; rfl
theorem qa {w : World} {t : TypeId} {x y : Value} {r : Bool} (h1 : binOp .eql t x y = (do pure (.bool (← Op.equal t x y)))) (h2 : binOp .neq t x y = (do pure (.bool (!(← Op.equal t x y))))) (h : (Op.equalIn (9999 + 1) t x y).run P w = .ok r w) :
  (binOp .eql t x y).run P w = .ok (.bool r) w ∧ (binOp .neq t x y).run P w = .ok (.bool (!r)) w := by
 have h' : (Op.equal t x y).run P w = .ok r w := h
 rw [h1, h2]
 simp [h']
theorem oF {T : Tab} {c : Ctx} {H : zb} {w : World} (hI : Inv base c H w) {fr : AFr} {op : BinOp} {neg fn : Bool} (hop : op = if neg then .neq else .eql) {t : TypeId} (ht : if fn then ∃ a b v, P.underlying t = some (.func a b v) else ∃ e, P.underlying t = some (.pointer e)) {ox oy : Operand} {lx ly : LOpd} {vx vy : Value} (rx : Rep c (opd fr lx) vx) (ry : Rep c (opd fr ly) vy)
  {x : AVal} {H' : zb} (h : zn T (.eqN neg fn lx ly) fr H = some (x, H')) : Done P base (do eqGuard op t ox oy vx vy; binOp op t vx vy) c w x H' := by
 simp only [zn] at h
 cases he : eqNil H fn (opd fr lx) (opd fr ly) with
 | none => rw [he] at h; cases h
 | some r =>
  rw [he] at h; cases h
  have fin : ∀ r, (∀ cs, vx ≠ .agg cs) → vx ≠ .nilIface → (binOp .eql t vx vy).run P w = .ok (.bool r) w → (binOp .neq t vx vy).run P w = .ok (.bool (!r)) w → Done P base (do eqGuard op t ox oy vx vy; binOp op t vx vy) c w (.p (.bool (r != neg))) H := by
   intro r h1 h2 h3 h4
   refine .still hI (v := .bool (r != neg)) ?_ (.p _ _ (.bool _))
   subst hop
   cases neg
   ·simp [Sem.run_bind, vm h1 h2, h3]
   ·simp [Sem.run_bind, vm h1 h2, h4]
  generalize hx : opd fr lx = ax at *
  generalize hy : opd fr ly = ay at *
  unfold eqNil at he
  split at he
  ·split at he <;> cases he
   rename_i hf; simp only [hf] at ht
   obtain ⟨e, ht⟩ := ht
   cases rx with | p _ _ rx => cases rx; cases ry with | p _ _ ry => cases ry; (
    exact fin true (by simp) (by simp) (qa rfl rfl (vT w 9999 ht none)).1 (qa rfl rfl (vT w 9999 ht none)).2)
  ·split at he <;> cases he
   rename_i hf; simp only [hf] at ht
   obtain ⟨e, ht⟩ := ht
   cases rx with | p _ _ rx => cases rx; cases ry with | p _ _ ry => cases ry; (
    exact fin false (by simp) (by simp) (qa rfl rfl (vT w 9999 ht (some _))).1 (qa rfl rfl (vT w 9999 ht (some _))).2)
  ·split at he
   ·split at he
    ·cases he
     rename_i e hk hc
     obtain ⟨hver, rfl⟩ := hc
     simp only [Bool.false_eq_true, if_false] at ht
     obtain ⟨el, ht⟩ := ht
     cases rx with
     | optr _ _ _ _ l v hl hv hh ho =>
      obtain ⟨hmp, g, cap, hp, rfl⟩ := hh (by rw [(hI.ent _ e l hk hl).ver]; exact hver.symm)
      cases ry with | p _ _ ry => cases ry; (
       exact fin false (by simp) (by simp) (qa rfl rfl (vT w 9999 ht (some _))).1 (qa rfl rfl (vT w 9999 ht (some _))).2)
    ·cases he
   ·cases he
  ·split at he <;> cases he
   rename_i hf; simp only [hf, if_true] at ht
   obtain ⟨a, b, v, ht⟩ := ht
   cases rx with | p _ _ rx => cases rx; cases ry with | p _ _ ry => cases ry; (
    exact fin true (by simp) (by simp) (qa rfl rfl (bL w 9999 ht)).1 (qa rfl rfl (bL w 9999 ht)).2)
  ·split at he <;> cases he
   rename_i hf; simp only [hf, if_true] at ht
   obtain ⟨a, b, v, ht⟩ := ht
   cases rx with | p _ _ rx => cases rx; cases ry with | p _ _ ry => cases ry; (
    exact fin false (by simp) (by simp) (qa rfl rfl (uO w 9999 ht _ _ _)).1 (qa rfl rfl (uO w 9999 ht _ _ _)).2)
  ·split at he <;> cases he
   rename_i hf; simp only [hf, if_true] at ht
   obtain ⟨a, b, v, ht⟩ := ht
   cases rx with | clo _ _ _ _ _ => cases ry with | p _ _ ry => cases ry; (
    exact fin false (by simp) (by simp) (qa rfl rfl (uO w 9999 ht _ _ _)).1 (qa rfl rfl (uO w 9999 ht _ _ _)).2)
  ·cases he
theorem un_ok {T : Tab} {c : Ctx} {H : zb} {w : World} (hI : Inv base c H w) {fr : AFr} {op : UnOp} {lx : LOpd} {vx : Value} (rx : Rep c (opd fr lx) vx)
  {x : AVal} {H' : zb} (h : zn T (.un op lx) fr H = some (x, H')) : Done P base (Op.unary op vx) c w x H' := by
 simp only [zn] at h
 cases hu : unV op (opd fr lx) with
 | none => rw [hu] at h; cases h
 | some p =>
  rw [hu] at h; cases h
  generalize hx : opd fr lx = ax at *
  unfold unV at hu
  split at hu
  ·split at hu <;> cases hu
   cases rx with | p _ _ rx => cases rx; exact .still hI (v := .bool (!_)) rfl (.p _ _ (.bool _))
  ·split at hu
   ·cases hu
    cases rx with | p _ _ rx => cases rx; exact .still hI (v := .int _ _) rfl (.p _ _ (.int _ _))
   ·simp only [binI] at hu
    cases hu
    cases rx with | p _ _ rx => cases rx; exact .still hI (v := .int _ _) rfl (.p _ _ (.int _ _))
   ·cases hu
  ·split at hu <;> cases hu
   cases rx with | p _ _ rx => cases rx; exact .still hI (v := .float _ _) rfl (.p _ _ (.flt _ _))
  ·split at hu <;> cases hu
   cases rx with | p _ _ rx => cases rx; exact .still hI (v := .complex _ _ _) rfl (.p _ _ (.cpx _ _ _))
  ·cases hu
theorem allP_rep {c : Ctx} {l : List AVal} {ps : List PVal} {vs : List Value} (h : j3 l = some ps) (r : RepL c l vs) : vs.length = ps.length ∧ ∀ (j : Nat) x v, ps[j]? = some x → vs[j]? = some v → PRep c.prot x v := by
 have := jG h
 subst this
 refine ⟨by simpa using r.1, fun j x v h1 h2 => ?_⟩
 have := r.2 j (.p x) v (by simp [h1]) h2
 cases this; assumption
theorem mkf_ok {T : Tab} {c : Ctx} {H : zb} {w : World} (hI : Inv base c H w) {fr : AFr} {f : FuncId} {caps : List LOpd} {vs : List Value} (rl : RepL c (caps.map (opd fr)) vs)
  {x : AVal} {H' : zb} (h : zn T (.mkf f caps) fr H = some (x, H')) : Done P base (Instr.makeFunc (.func f) #[] vs.toArray) c w x H' := by
 simp only [zn] at h
 cases h
 refine .still hI (v := .func (.func f) #[] vs.toArray) rfl ?_
 unfold aO
 cases ha : j3 (caps.map (opd fr)) with
 | none => exact .clo f _ vs rl.1 rl.2
 | some ps =>
  obtain ⟨h1, h2⟩ := allP_rep ha rl
  exact .p _ _ (.clo f ps vs h1 h2)
theorem nilc_ok {T : Tab} {c : Ctx} {H : zb} {w : World} (hI : Inv base c H w) {fr : AFr} {lx : LOpd} {a : Act} {ox : Operand} {o : Oper} (ho : o.op = .nilCheck ox) (rx : Rep c (opd fr lx) (a.eval ox))
  {x : AVal} {H' : zb} (h : zn T (.nilc lx) fr H = some (x, H')) : (execOp a.eval o).run P w = .ok (.value (a.eval ox)) w ∧ H' = H ∧ Rep c x (a.eval ox) := by
 simp only [zn] at h
 generalize hv : a.eval ox = vx at *
 split at h
 ·rename_i k ver i off hx
  rw [hx] at rx
  cases hk : H[k]? with
  | none => rw [hk] at h; cases h
  | some e =>
   rw [hk] at h
   simp only at h
   split at h
   case isFalse => cases h
   rename_i hver
   cases h
   cases rx with
   | optr _ _ _ _ l v hl hvv hh ho2 =>
    obtain ⟨hmp, g, cap, hp, rfl⟩ := hh (by rw [(hI.ent k e l hk hl).ver]; exact hver.symm)
    exact ⟨by simp [execOp, ho, hv], rfl, .optr _ _ _ _ l _ hl hvv hh ho2⟩
 ·rename_i l hx
  rw [hx] at rx
  cases h
  have := rx
  cases rx with | p _ _ rx => cases rx; exact ⟨by simp [execOp, ho, hv], rfl, this⟩
 ·rename_i f l hx
  rw [hx] at rx
  cases h
  have := rx
  cases rx with | p _ _ rx => cases rx; exact ⟨by simp [execOp, ho, hv], rfl, this⟩
 ·rename_i f l hx
  rw [hx] at rx
  cases h
  have := rx
  cases rx; exact ⟨by simp [execOp, ho, hv], rfl, this⟩
 ·cases h
theorem xA {T : Tab} {c : Ctx} {H : zb} {w : World} (hI : Inv base c H w) {fr : AFr} {mx : Bool} {lx ly : LOpd} {vx vy : Value} (rx : Rep c (opd fr lx) vx) (ry : Rep c (opd fr ly) vy) {ts : Array TypeId} {ty : TypeId}
  {x : AVal} {H' : zb} (h : zn T (.minmax mx lx ly) fr H = some (x, H')) : Done P base (if mx then Builtin.max_ ts ty #[vx, vy] else Builtin.min_ ts ty #[vx, vy]) c w x H' := by
 simp only [zn] at h
 split at h
 case h_2 => cases h
 rename_i k a k' b hx hy
 split at h
 case isFalse => cases h
 rename_i hk
 cases h
 subst hk
 rw [hx] at rx
 rw [hy] at ry
 cases rx with | p _ _ rx => cases rx; cases ry with | p _ _ ry => cases ry; (
  cases mx with
  | true => exact .still hI (v := .int k (if a < b then b else a)) (by simp [Builtin.max_, Builtin.max2]) (.p _ _ (.int _ _))
  | false => exact .still hI (v := .int k (if b < a then b else a)) (by simp [Builtin.min_, Builtin.min2]) (.p _ _ (.int _ _)))
theorem sF {T : Tab} {c : Ctx} {H : zb} {w : World} (hI : Inv base c H w) {fr : AFr} {mx : Bool} {lx ly lz : LOpd} {vx vy vz : Value} (rx : Rep c (opd fr lx) vx) (ry : Rep c (opd fr ly) vy) (rz : Rep c (opd fr lz) vz) {ts : Array TypeId} {ty : TypeId}
  {x : AVal} {H' : zb} (h : zn T (.minmax3 mx lx ly lz) fr H = some (x, H')) : Done P base (if mx then Builtin.max_ ts ty #[vx, vy, vz] else Builtin.min_ ts ty #[vx, vy, vz]) c w x H' := by
 simp only [zn] at h
 split at h
 case h_2 => cases h
 rename_i k a k' b k'' d hx hy hz
 split at h
 case isFalse => cases h
 rename_i hk
 cases h
 obtain ⟨rfl, rfl⟩ := hk
 rw [hx] at rx
 rw [hy] at ry
 rw [hz] at rz
 cases rx with | p _ _ rx => cases rx; cases ry with | p _ _ ry => cases ry; cases rz with | p _ _ rz => cases rz; (
  cases mx with
  | true => exact .still hI (v := .int k (mx2 (mx2 a b) d)) (by simp only [Builtin.max_, List.foldlM, Sem.run_bind, Builtin.max2, Sem.run_pure, Result.andThen_ok, mx2]; rfl) (.p _ _ (.int _ _))
  | false => exact .still hI (v := .int k (mn2 (mn2 a b) d)) (by simp only [Builtin.min_, List.foldlM, Sem.run_bind, Builtin.min2, Sem.run_pure, Result.andThen_ok, mn2]; rfl) (.p _ _ (.int _ _)))
theorem cpx_ok {T : Tab} {c : Ctx} {H : zb} {w : World} (hI : Inv base c H w) {fr : AFr} {lx ly : LOpd} {vx vy : Value} (rx : Rep c (opd fr lx) vx) (ry : Rep c (opd fr ly) vy) {ts : Array TypeId} {ty : TypeId}
  {x : AVal} {H' : zb} (h : zn T (.mkc lx ly) fr H = some (x, H')) : Done P base (Builtin.complex_ ts ty #[vx, vy]) c w x H' := by
 simp only [zn] at h
 split at h
 case h_2 => cases h
 rename_i k a k' b hx hy
 split at h
 case isFalse => cases h
 rename_i hk
 cases h
 subst hk
 rw [hx] at rx
 rw [hy] at ry
 cases rx with | p _ _ rx => cases rx; cases ry with | p _ _ ry => cases ry; exact .still hI (v := .complex k a b) (by show (if k = k then _ else _ : Sem Value).run P w = _; rw [if_pos rfl]; rfl) (.p _ _ (.cpx _ _ _))
theorem re_ok {T : Tab} {c : Ctx} {H : zb} {w : World} (hI : Inv base c H w) {fr : AFr} {lx : LOpd} {vx : Value} (rx : Rep c (opd fr lx) vx) {ts : Array TypeId} {ty : TypeId}
  {x : AVal} {H' : zb} (h : zn T (.re lx) fr H = some (x, H')) : Done P base (Builtin.real_ ts ty #[vx]) c w x H' := by
 simp only [zn] at h
 split at h
 case h_2 => cases h
 rename_i k a b hx
 cases h
 rw [hx] at rx
 cases rx with | p _ _ rx => cases rx; exact .still hI (v := .float k a) rfl (.p _ _ (.flt _ _))
theorem im_ok {T : Tab} {c : Ctx} {H : zb} {w : World} (hI : Inv base c H w) {fr : AFr} {lx : LOpd} {vx : Value} (rx : Rep c (opd fr lx) vx) {ts : Array TypeId} {ty : TypeId}
  {x : AVal} {H' : zb} (h : zn T (.im lx) fr H = some (x, H')) : Done P base (Builtin.imag_ ts ty #[vx]) c w x H' := by
 simp only [zn] at h
 split at h
 case h_2 => cases h
 rename_i k a b hx
 cases h
 rw [hx] at rx
 cases rx with | p _ _ rx => cases rx; exact .still hI (v := .float k b) rfl (.p _ _ (.flt _ _))
theorem toInt_ok {T : Tab} {c : Ctx} {H : zb} {w : World} (hI : Inv base c H w) {fr : AFr} {s t : TypeId} {k0 k : IntKind} (hs : P.underlying s = some (.int k0)) (ht : P.underlying t = some (.int k)) {lx : LOpd} {vx : Value} (rx : Rep c (opd fr lx) vx)
  {x : AVal} {H' : zb} (h : zn T (.conv (.toInt k) lx) fr H = some (x, H')) : Done P base (convert s t vx) c w x H' := by
 simp only [zn] at h
 cases hi : qZ (opd fr lx) with
 | none => rw [hi] at h; cases h
 | some n =>
  rw [hi] at h; cases h
  obtain ⟨k1, rfl⟩ := qU rx hi
  exact .still hI (v := .int k (k.wrap n)) (by simp [convert, run_underlying hs, run_underlying ht, Conv.intToInt]) (.p _ _ (.int _ _))
theorem i2f_ok {T : Tab} {c : Ctx} {H : zb} {w : World} (hI : Inv base c H w) {fr : AFr} {s t : TypeId} {k0 : IntKind} {k : FloatKind} (hs : P.underlying s = some (.int k0)) (ht : P.underlying t = some (.float k)) {lx : LOpd} {vx : Value} (rx : Rep c (opd fr lx) vx)
  {x : AVal} {H' : zb} (h : zn T (.conv (.i2f k) lx) fr H = some (x, H')) : Done P base (convert s t vx) c w x H' := by
 simp only [zn] at h
 cases hi : qZ (opd fr lx) with
 | none => rw [hi] at h; cases h
 | some n =>
  rw [hi] at h; cases h
  obtain ⟨k1, rfl⟩ := qU rx hi
  exact .still hI (v := .float k (k.nearest n)) (by simp [convert, run_underlying hs, run_underlying ht, Conv.intToFloat]) (.p _ _ (.flt _ _))
theorem f2i_ok {T : Tab} {c : Ctx} {H : zb} {w : World} (hI : Inv base c H w) {fr : AFr} {s t : TypeId} {k0 : FloatKind} {k : IntKind} (hs : P.underlying s = some (.float k0)) (ht : P.underlying t = some (.int k)) {lx : LOpd} {vx : Value} (rx : Rep c (opd fr lx) vx)
  {x : AVal} {H' : zb} (h : zn T (.conv (.f2i k) lx) fr H = some (x, H')) : Done P base (convert s t vx) c w x H' := by
 simp only [zn] at h
 split at h
 case h_2 => cases h
 rename_i s1 b hx
 split at h
 case h_2 => cases h
 rename_i n hn
 split at h
 case isFalse => cases h
 rename_i hk
 cases h
 rw [hx] at rx
 cases rx with
 | p _ _ rx =>
 cases rx
 exact .still hI (v := .int k n) (by simp [convert, run_underlying hs, run_underlying ht, Conv.floatToInt, hn, hk]) (.p _ _ (.int _ _))
theorem same_ok {T : Tab} {c : Ctx} {H : zb} {w : World} (hI : Inv base c H w) {fr : AFr} {s t : TypeId} (hs : P.underlying s = some .string) (ht : P.underlying t = some .string) {lx : LOpd} {vx : Value} (rx : Rep c (opd fr lx) vx)
  {x : AVal} {H' : zb} (h : zn T (.conv .same lx) fr H = some (x, H')) : Done P base (convert s t vx) c w x H' := by
 simp only [zn] at h
 split at h
 case h_2 => cases h
 rename_i b hx
 cases h
 rw [hx] at rx
 have := rx
 cases rx with | p _ _ rx => cases rx; exact .still hI (v := .string _) (by simp [convert, run_underlying hs, run_underlying ht]) this
theorem xK {o : Operand} (h : og o = true) : o = .const .nilIface := by
 unfold og at h
 split at h
 ·rfl
 ·cases h
theorem sg (w : World) (d : Nat) {t : TypeId} {ms : _} (ht : P.underlying t = some (.interface ms)) : (Op.equalIn (d + 1) t .nilIface .nilIface).run P w = .ok true w := by
 simp only [Op.equalIn, Sem.run_bind, run_underlying ht, Result.andThen_ok]; rfl
theorem eqI_ok {T : Tab} {c : Ctx} {H : zb} {w : World} (hI : Inv base c H w) {fr : AFr} {op : BinOp} {neg : Bool} (hop : op = if neg then .neq else .eql) {t : TypeId} {ms : _} (ht : P.underlying t = some (.interface ms)) {ox : Operand} {lx : LOpd} {vx : Value} (rx : Rep c (opd fr lx) vx)
  {x : AVal} {H' : zb} (h : zn T (.eqI neg lx) fr H = some (x, H')) : Done P base (do eqGuard op t ox (.const .nilIface) vx .nilIface; binOp op t vx .nilIface) c w x H' := by
 have fin : ((do eqGuard op t ox (.const .nilIface) .nilIface .nilIface; binOp op t .nilIface .nilIface : Sem Value)).run P w = .ok (.bool (!neg)) w := by
  have b := qa (P := P) (w := w) (t := t) (x := .nilIface) (y := .nilIface) (r := true) rfl rfl (sg w 9999 ht)
  have g : (eqGuard op t ox (.const .nilIface) .nilIface .nilIface).run P w = .ok () w := by
   subst hop
   cases neg <;> simp [eqGuard]
  subst hop
  cases neg
  ·simp [Sem.run_bind, g, b.1] at g ⊢; simp [g, b.1]
  ·simp [Sem.run_bind, g, b.2] at g ⊢; simp [g, b.2]
 simp only [zn] at h
 split at h
 case h_2 => cases h
 rename_i hx
 cases h
 rw [hx] at rx
 cases rx with
 | p _ _ rx =>
 cases rx
 exact .still hI fin (.p _ _ (.bool _))
theorem se (w : World) (d : Nat) {t e : TypeId} (ht : P.underlying t = some (.slice e)) (a : Option Addr) (n cp : Nat) : (Op.equalIn (d + 1) t (.slice a n cp) (.slice none 0 0)).run P w = .ok a.isNone w := by
 cases a <;> simp only [Op.equalIn, Sem.run_bind, run_underlying ht, Result.andThen_ok] <;> rfl
theorem eqS_ok {T : Tab} {c : Ctx} {H : zb} {w : World} (hI : Inv base c H w) {fr : AFr} {op : BinOp} {neg : Bool} (hop : op = if neg then .neq else .eql) {t e : TypeId} (ht : P.underlying t = some (.slice e)) {ox oy : Operand} {lx ly : LOpd} {vx : Value} (rx : Rep c (opd fr lx) vx)
  {x : AVal} {H' : zb} (h : zn T (.eqS neg lx ly) fr H = some (x, H')) : Done P base (do eqGuard op t ox oy vx (.slice none 0 0); binOp op t vx (.slice none 0 0)) c w x H' := by
 have fin : ∀ (a : Option Addr) (n cp : Nat), ((do eqGuard op t ox oy (.slice a n cp) (.slice none 0 0); binOp op t (.slice a n cp) (.slice none 0 0) : Sem Value)).run P w = .ok (.bool (a.isNone != neg)) w := fun a n cp => by
  have b := qa (P := P) (w := w) (t := t) (x := .slice a n cp) (y := .slice none 0 0) (r := a.isNone) rfl rfl (se w 9999 ht a n cp)
  have g1 : ∀ cs, (Value.slice a n cp) ≠ .agg cs := by simp
  have g2 : (Value.slice a n cp) ≠ .nilIface := by simp
  subst hop
  cases neg
  ·simp [Sem.run_bind, vm g1 g2, b.1]
  ·simp [Sem.run_bind, vm g1 g2, b.2]
 simp only [zn] at h
 split at h
 case h_2 => cases h
 split at h
 ·rename_i hx
  cases h
  rw [hx] at rx
  cases rx with
  | p _ _ rx =>
  cases rx with
  | lst _ a len cap size blk off vals hl hc hm ha hs hp hr hk => exact .still hI (fin a len cap) (.anyb _)
 ·rename_i y ys hx
  cases h
  rw [hx] at rx
  cases rx with
  | p _ _ rx =>
  cases rx with
  | lst _ a len cap size blk off vals hl hc hm ha hs hp hr hk =>
   have ha' := ha (by simp)
   subst ha'
   exact .still hI (fin _ len cap) (by cases neg <;> exact .p _ _ (.bool _))
 ·rename_i y ys hx
  cases h
  rw [hx] at rx
  cases rx with
  | tight _ a n hn rx hz =>
  cases rx with
  | lst _ a len cap size blk off vals hl hc hm ha hs hp hr hk =>
   have ha' := ha (by simp)
   subst ha'
   exact .still hI (fin _ _ _) (by cases neg <;> exact .p _ _ (.bool _))
 ·rename_i hx
  cases h
  rw [hx] at rx
  cases rx with
  | tight _ a n hn rx hz =>
   have ha' := hz rfl
   subst ha'
   exact .still hI (fin _ _ _) (by cases neg <;> exact .p _ _ (.bool _))
 ·cases h
theorem a9 (w : World) (g off n : Nat) (cur : Array Value) (ty : TypeId) (fr : Nat × Nat) (h : w.heap[g]? = some (.cells cur ty fr)) : ∃ fr', (w.freeze ⟨g, off, none⟩ n).heap[g]? = some (.cells cur ty fr') := by
 unfold World.freeze
 split
 ·exact ⟨fr, h⟩
 ·simp only [Array.getElem?_modify, if_true, h, Option.map_some]
  exact ⟨_, rfl⟩
theorem oq (w : World) (g off n b : Nat) (h : b ≠ g) : (w.freeze ⟨g, off, none⟩ n).heap[b]? = w.heap[b]? := by
 unfold World.freeze
 split
 ·rfl
 ·simp only [Array.getElem?_modify]
  rw [if_neg (fun e => h e.symm)]
theorem a8 (w : World) (a : Addr) (n : Nat) : (w.freeze a n).heap.size = w.heap.size := by
 unfold World.freeze
 split <;> simp
theorem m9 (w : World) (a : Addr) (n : Nat) : (w.freeze a n).os = w.os ∧ (w.freeze a n).tape = w.tape ∧ (w.freeze a n).output = w.output := by
 unfold World.freeze
 split <;> exact ⟨rfl, rfl, rfl⟩
theorem Inv.kill {c : Ctx} {H : zb} {w w' : World} (hI : Inv base c H w) {k : Nat} {e : Ent} {l : Loc} {g cap : Nat} (hk : H[k]? = some e) (hl : c.locs[k]? = some l) (hp : l.place = some (g, cap)) (hmp : l.mp = false)
  (hos : w'.os = w.os) (ht : w'.tape = w.tape) (ho : w'.output = w.output) (hsz : w.heap.size ≤ w'.heap.size) (hblk : ∀ b, b < w.heap.size → b ≠ g → w'.heap[b]? = w.heap[b]?)
  (hg : ∀ cur ty fr, w.heap[g]? = some (.cells cur ty fr) → ∃ fr', w'.heap[g]? = some (.cells cur ty fr')) :
  ∃ c', Step c w c' w' ∧ Inv base c' (H.set k ⟨e.size, e.ver + 1, true, [], e.ty⟩) w' ∧ ∀ (n len : Nat) (v : Value) (ps : List PVal), Rep c (.own k 0 len e.ver) v → len = e.elems.length → zP (zj H 0) e.elems = some ps → PRep c'.prot (.lst ps) v := by
 obtain ⟨c1, e1, s1, i1, p1⟩ := hI.freeze1 k
 have hkl : k < H.length := (List.getElem?_eq_some_iff.1 hk).1
 have he := hI.ent k e l hk hl
 have hl1 : c1.locs[k]? = some l := by rw [e1]; exact hl
 obtain ⟨cur, ty, a1, _⟩ := he.there g cap hp hmp
 obtain ⟨hs, hi⟩ := i1.replace (w' := w') hl1 ⟨e.size, e.ver + 1, true, [], e.ty⟩ ⟨l.ver + 1, l.size, none, false⟩ hos ht ho hsz
  (fun b hb hn => hblk b hb (fun h => by subst h; exact hn cap hp)) (by simp) (fun h => by simp at h) (fun g cap h => by simp at h)
  (fun b o v hv => by
   have h0 := i1.prot b o v hv
   by_cases hb : b = g
   ·subst hb
    obtain ⟨fr', h1⟩ := hg cur ty (0, 0) a1
    rw [cell_of_row w' b o cur ty fr' h1]
    rw [cell_of_row w b o cur ty (0, 0) a1] at h0
    exact h0
   ·rw [cell_of_heap (hblk b (i1.prot_lt hv) hb)]; exact h0)
  ⟨by simp [he.ver], he.size, by rw [← he.pos, hmp], by simp, fun _ => rfl, fun _ _ _ _ _ h => by simp at h, fun _ _ h => by simp at h, fun _ _ h => by simp at h⟩
 have hset : (Abs.freeze1 H k).set k ⟨e.size, e.ver + 1, true, [], e.ty⟩ = H.set k ⟨e.size, e.ver + 1, true, [], e.ty⟩ := by
  unfold Abs.freeze1
  rw [hk]
  simp
 rw [hset] at hi
 refine ⟨_, s1.trans hs, hi, fun n len v ps hr hlen hm => ?_⟩
 have hget : (Abs.freeze1 H k)[k]? = some ⟨e.size, e.ver, true, e.elems, e.ty⟩ := by
  unfold Abs.freeze1
  rw [hk]
  simp [hkl]
 have hm' : zP (zj (Abs.freeze1 H k) 0) e.elems = some ps := by
  rw [← hm]
  congr 1
  funext x
  cases x <;> simp [zj]
 have hel : ∀ x ∈ e.elems, zi (Abs.freeze1 H k) 0 x = [] := fun x hx => by
  obtain ⟨j, hj, rfl⟩ := List.getElem_of_mem hx
  obtain ⟨y, _, h2⟩ := (wK hm').2 j _ (List.getElem?_eq_getElem hj)
  generalize e.elems[j] = z at h2
  cases z <;> simp [zj] at h2 <;> simp [zi]
 refine uy i1 1 (.own k 0 len e.ver) v (.lst ps) (hr.step s1) ?_ (fun k' hk' => ?_)
 ·simp only [zj, hget]
  rw [if_pos ⟨trivial, by simp [hlen]⟩]
  simp [hlen, hm']
 ·simp only [zi, hget, List.drop_zero, hlen, List.take_length, List.mem_cons, List.mem_flatMap] at hk'
  rcases hk' with rfl | ⟨x, hx, h2⟩
  ·intro e0 l0 g0 cap0 h1 h2 h3 o ho'
   have := p1 e l0 g0 cap0 hk h2 h3 o
   rw [hget] at h1
   cases h1
   exact this ho'
  ·rw [hel x hx] at h2; simp at h2
theorem mark_ok {T : Tab} {c : Ctx} {H : zb} {w : World} (hI : Inv base c H w) {fr : AFr} {t e0 : TypeId} (ht : P.underlying t = some (.slice e0)) (he0 : P.underlying e0 = some (.int .u8)) {lx : LOpd} {vx : Value} (rx : Rep c (opd fr lx) vx)
  {x : AVal} {H' : zb} (h : zn T (.conv .mark lx) fr H = some (x, H')) : Done P base (convert t t vx) c w x H' := by
 simp only [zn] at h
 split at h
 case h_2 => cases h
 rename_i k len ver hx
 rw [hx] at rx
 cases hk : H[k]? with
 | none => rw [hk] at h; cases h
 | some e =>
  rw [hk] at h
  simp only at h
  split at h
  case isFalse => cases h
  rename_i hc
  obtain ⟨hver, hlen, hpos⟩ := hc
  cases hm : zP (zj H 0) e.elems with
  | none => rw [hm] at h; cases h
  | some ps =>
   rw [hm] at h
   cases h
   obtain ⟨l, hl, he, hv⟩ := vU hI rx hk hver
   cases hp : l.place with
   | none =>
    have := he.nowhere hp
    rw [this] at hlen
    simp at hlen; omega
   | some q =>
    obtain ⟨g, cap⟩ := q
    simp only [OwnVal, hp] at hv
    obtain ⟨hmp, a, cp, rfl, q2, q3, q4, q5⟩ := hv
    obtain ⟨rfl, _⟩ := q5 (.inl hpos)
    obtain ⟨cur, ty, a1, _⟩ := he.there g cap hp hmp
    have hrun : (convert t t (.slice (some ⟨g, 0 * l.size, none⟩) len cp)).run P w = .ok (.slice (some ⟨g, 0 * l.size, none⟩) len cp) (w.freeze ⟨g, cur.size, none⟩ 1) := by
     have hsh : w.shape? g = some (ty, cur.size) := by simp [World.shape?, a1]
     simp [convert, run_underlying ht, run_underlying he0, markStringish, hsh]
    obtain ⟨c', s', i', hr⟩ := hI.kill (w' := w.freeze ⟨g, cur.size, none⟩ 1) hk hl hp hmp (m9 w _ _).1 (m9 w _ _).2.1 (m9 w _ _).2.2 (by rw [a8]; exact Nat.le_refl _)
     (fun b _ hb => oq w g _ 1 b hb) (fun cur' ty' fr' h => a9 w g _ 1 cur' ty' fr' h)
    subst hver
    exact ⟨_, _, c', hrun, s', i', .p _ _ (hr 0 len _ ps rx hlen hm)⟩
theorem gV {t e : TypeId} (h : y9 P t = some e) : ∃ k i z, P.underlying t = some (.map k e) ∧ P.underlying k = some (.int .i64) ∧ P.info? e = some i ∧ i.zero = some z := by
 unfold y9 at h
 split at h
 case h_2 => cases h
 rename_i k e' h1
 split at h
 case h_2 => cases h
 rename_i h2
 split at h
 case isFalse => cases h
 rename_i h3
 cases h
 cases hi : P.info? e with
 | none => rw [hi] at h3; simp at h3
 | some i =>
  rw [hi] at h3
  cases hz : i.zero with
  | none => simp [hz] at h3
  | some z => exact ⟨k, i, z, h1, h2, rfl, hz⟩
theorem find_ok {pr : Prot} (n : Int) : ∀ (l : List MapEntry) (els : List AVal) (i0 : Nat), l.length = els.length →
  (∀ (i : Nat) x, els[i]? = some x → ∃ me k y, l[i]? = some me ∧ me.key = .int .i64 k ∧ x = .p (.agg [.int .i64 k, y]) ∧ PRep pr y me.val) →
  (∃ y j me, wJ n els = some y ∧ Instr.findNow (.int .i64) (.int .i64 n) l i0 = some (some (i0 + j, me.val)) ∧ l[j]? = some me ∧ me.key = .int .i64 n ∧ PRep pr y me.val ∧ ∀ z, wU n z els = els.set j (qh n z)) ∨
  (wJ n els = none ∧ Instr.findNow (.int .i64) (.int .i64 n) l i0 = some none ∧ ∀ z, wU n z els = els ++ [qh n z])
 | [], [], _, _, _ => .inr ⟨rfl, rfl, fun _ => rfl⟩
 | [], _ :: _, _, h, _ => by simp at h
 | _ :: _, [], _, h, _ => by simp at h
 | me :: l, x :: els, i0, h, hx => by
  obtain ⟨me', k, y, h1, h2, rfl, h4⟩ := hx 0 x rfl
  simp only [List.getElem?_cons_zero, Option.some.injEq] at h1
  subst h1
  by_cases hk : n = k
  ·subst hk
   exact .inl ⟨y, 0, me, by simp [wJ], by simp [Instr.findNow, h2, Instr.sameNow], rfl, h2, h4, fun z => by simp [wU]⟩
  ·have hb : (n == k) = false := by simpa using hk
   rcases find_ok n l els (i0 + 1) (by simpa using h) (fun i x hi => hx (i + 1) x hi) with ⟨y', j, me', a1, a2, a3, a4, a5, a6⟩ | ⟨a1, a2, a3⟩
   ·refine .inl ⟨y', j + 1, me', by simp [wJ, hk, a1], ?_, a3, a4, a5, fun z => by simp [wU, hk, a6, qh]⟩
    simp only [Instr.findNow, h2, Instr.sameNow, if_true, hb, a2]
    rw [Nat.add_assoc, Nat.add_comm 1 j]
   ·refine .inr ⟨by simp [wJ, hk, a1], ?_, fun z => by simp [wU, hk, a3, qh]⟩
    simp only [Instr.findNow, h2, Instr.sameNow, if_true, hb, a2]
theorem aF {c : Ctx} {H : zb} {w : World} (hI : Inv base c H w) {j ver : Nat} {v : Value} (r : Rep c (.omap j ver) v) {e : Ent} (hk : H[j]? = some e) (hver : e.ver = ver) :
  ∃ l g cap, c.locs[j]? = some l ∧ EntOk c w e l ∧ l.mp = true ∧ l.place = some (g, cap) ∧ v = .map (some g) ∧ MapIn c w e g := by
 cases r with
 | omap _ _ l v hl hv hh ho =>
  have he := hI.ent j e l hk hl
  obtain ⟨hmp, g, cap, hp, rfl⟩ := hh (by rw [he.ver]; exact hver.symm)
  exact ⟨l, g, cap, hl, he, hmp, hp, rfl, he.mapped g cap hp hmp⟩
theorem key_val {c : Ctx} {n : Int} {v : Value} (r : Rep c (.p (.int .i64 n)) v) : v = .int .i64 n := by
 cases r with | p _ _ r => cases r; rfl
theorem mget_ok {T : Tab} {c : Ctx} {H : zb} {w : World} (hI : Inv base c H w) {fr : AFr} {t e0 : TypeId} (ht : y9 P t = some e0) {ok : Bool} {lx lk : LOpd} {vx vk : Value} (rx : Rep c (opd fr lx) vx) (rk : Rep c (opd fr lk) vk)
  {x : AVal} {H' : zb} (h : zn T (.mget ok (qb P e0) lx lk) fr H = some (x, H')) : Done P base (Instr.lookup t vx vk ok) c w x H' := by
 obtain ⟨kt, i, z, h1, h2, h3, h4⟩ := gV ht
 have hz : qb P e0 = kP z := by simp [qb, h3, h4]
 have rz : Rep c (qb P e0) z := by rw [hz]; exact vq c z
 generalize hzz : qb P e0 = zz at *
 simp only [zn] at h
 split at h
 case h_2 => cases h
 rename_i j ver n hx hk
 rw [hx] at rx
 rw [hk] at rk
 cases hj : H[j]? with
 | none => rw [hj] at h; cases h
 | some e =>
  rw [hj] at h
  simp only at h
  split at h
  case isFalse => cases h
  rename_i hver
  obtain ⟨l, g, cap, hl, he, hmp, hp, rfl, es, clock, b1, b2, b3⟩ := aF hI rx hj hver
  have := key_val rk
  subst this
  have hkey : MapKept.IsKey (.int .i64) (.int .i64 n) := by simp [MapKept.IsKey]
  rcases find_ok (pr := c.prot) n es.toList e.elems 0 (by simpa using b2) (fun i x hi => by simpa using b3 i x hi) with ⟨y, i', me, a1, a2, a3, a4, a5, a6⟩ | ⟨a1, a2, a3⟩
  ·rw [a1] at h
   simp only [Option.some.injEq, Prod.mk.injEq] at h
   obtain ⟨rfl, rfl⟩ := h
   cases ok with
   | true =>
    refine .still hI (v := .tuple #[me.val, .bool true]) ?_ (.p _ _ (.tup _ [me.val, .bool true] rfl (fun j x v hx hv => ?_)))
    ·simp [Instr.lookup, run_underlying h1, MapKept.run_getObj_map b1, MapKept.run_checkKey h2 hkey, MapKept.run_findKey h2 a2]
    ·match j, hx, hv with
     | 0, hx, hv => simp at hx hv; subst hx; subst hv; exact a5
     | 1, hx, hv => simp at hx hv; subst hx; subst hv; exact .bool _
   | false =>
    refine .still hI (v := me.val) ?_ (.p _ _ a5)
    simp [Instr.lookup, run_underlying h1, MapKept.run_getObj_map b1, MapKept.run_checkKey h2 hkey, MapKept.run_findKey h2 a2]
  ·rw [a1] at h
   have run : (Instr.lookup t (.map (some g)) (.int .i64 n) ok).run P w = .ok (if ok then .tuple #[z, .bool false] else z) w := by
    cases ok <;> simp [Instr.lookup, run_underlying h1, MapKept.run_getObj_map b1, MapKept.run_checkKey h2 hkey, MapKept.run_findKey h2 a2, zeroValue, typeInfo, h3, h4]
   simp only at h
   split at h
   ·rename_i y
    simp only [Option.some.injEq, Prod.mk.injEq] at h
    obtain ⟨rfl, rfl⟩ := h
    have rz' : PRep c.prot y z := by cases rz; assumption
    cases ok with
    | true =>
     refine .still hI run (.p _ _ (.tup _ [z, .bool false] rfl (fun j x v hx hv => ?_)))
     match j, hx, hv with
     | 0, hx, hv => simp at hx hv; subst hx; subst hv; exact rz'
     | 1, hx, hv => simp at hx hv; subst hx; subst hv; exact .bool _
    | false => exact .still hI run (.p _ _ rz')
   ·simp only [Option.some.injEq, Prod.mk.injEq] at h
    obtain ⟨rfl, rfl⟩ := h
    cases ok with
    | true =>
     refine .still hI run (.tup _ [z, .bool false] rfl (fun j x v hx hv => ?_))
     match j, hx, hv with
     | 0, hx, hv => simp at hx hv; subst hx; subst hv; exact rz
     | 1, hx, hv => simp at hx hv; subst hx; subst hv; exact .p _ _ (.bool _)
    | false => exact .still hI run rz
theorem set_self {c : Ctx} {k : Nat} {l : Loc} (hl : c.locs[k]? = some l) : (⟨c.locs.set k l, c.prot⟩ : Ctx) = c := by
 have hkl : k < c.locs.length := (List.getElem?_eq_some_iff.1 hl).1
 have : c.locs.set k l = c.locs := by
  apply List.ext_getElem?
  intro i
  by_cases hik : k = i
  ·subst hik; simp [hkl]; simpa [hkl] using hl.symm
  ·simp [hik]
 rw [this]
theorem cell_map {w : World} {g o : Nat} {es : Array MapEntry} {ck : Nat} (h : w.heap[g]? = some (.map es ck)) : w.cell? ⟨g, o, none⟩ = none := by
 simp [World.cell?, h]
theorem Inv.setMap {c : Ctx} {H : zb} {w : World} (hI : Inv base c H w) {k : Nat} {e : Ent} {l : Loc} {g cap : Nat} (hk : H[k]? = some e) (hl : c.locs[k]? = some l) (hp : l.place = some (g, cap)) (hmp : l.mp = true)
  {es : Array MapEntry} {ck : Nat} (hb : w.heap[g]? = some (.map es ck)) (es' : Array MapEntry) (ck' : Nat) (elems' : List AVal) (hlen : es'.size = elems'.length)
  (hrep : ∀ (i : Nat) x, elems'[i]? = some x → ∃ me k y, es'[i]? = some me ∧ me.key = .int .i64 k ∧ x = .p (.agg [.int .i64 k, y]) ∧ PRep c.prot y me.val) :
  Step c w c { w with heap := w.heap.setIfInBounds g (.map es' ck') } ∧ Inv base c (H.set k ⟨e.size, e.ver, e.froz, elems', e.ty⟩) { w with heap := w.heap.setIfInBounds g (.map es' ck') } := by
 have he := hI.ent k e l hk hl
 obtain ⟨s1, s2⟩ := MapKept.heap_set (o' := .map es' ck') hb
 have hok : EntOk c { w with heap := w.heap.setIfInBounds g (.map es' ck') } ⟨e.size, e.ver, e.froz, elems', e.ty⟩ l := by
  refine ⟨he.ver, he.size, he.pos, fun h => (by rw [hmp] at h; cases h), fun h => (by rw [h] at hp; cases hp), fun g' cap' cur2 ty2 fr2 h hh2 => ?_, fun g' cap' h _ => ?_, fun g' cap' h hm => (by rw [hmp] at hm; cases hm)⟩
  ·rw [hp] at h; cases h
   rw [s1] at hh2
   cases hh2
  ·rw [hp] at h; cases h
   exact ⟨es', ck', s1, hlen, hrep⟩
 obtain ⟨hs, hi⟩ := hI.replace hl (w' := { w with heap := w.heap.setIfInBounds g (.map es' ck') }) ⟨e.size, e.ver, e.froz, elems', e.ty⟩ l rfl rfl rfl (by simp)
  (fun b _ hn => s2 b (fun h => hn cap (by rw [hp, h]))) (Nat.le_refl _) (fun _ => rfl) (fun g' cap' h => .inl ⟨cap', h⟩)
  (fun b o v hv => by
   have h0 := hI.prot b o v hv
   by_cases hbg : b = g
   ·subst hbg
    rw [cell_map hb] at h0; cases h0
   ·rw [cell_of_heap (s2 b hbg)]; exact h0)
  hok
 rw [set_self hl] at hs hi
 exact ⟨hs, hi⟩
theorem mset_ok {T : Tab} {c : Ctx} {H : zb} {w : World} (hI : Inv base c H w) {fr : AFr} {t e0 : TypeId} (ht : y9 P t = some e0) {lx lk lv : LOpd} {vx vk vv : Value} (rx : Rep c (opd fr lx) vx) (rk : Rep c (opd fr lk) vk) (rv : Rep c (opd fr lv) vv)
  {x : AVal} {H' : zb} (h : zn T (.mset lx lk lv) fr H = some (x, H')) :
  ∃ w' c', (Instr.mapUpdate t vx vk vv).run P w = .ok () w' ∧ Step c w c' w' ∧ Inv base c' H' w' ∧ x = .p (.tup []) := by
 obtain ⟨kt, i, z, h1, h2, h3, h4⟩ := gV ht
 simp only [zn] at h
 split at h
 case h_2 => cases h
 rename_i j ver n y hx hk hv
 rw [hx] at rx
 rw [hk] at rk
 rw [hv] at rv
 cases hj : H[j]? with
 | none => rw [hj] at h; cases h
 | some e =>
  rw [hj] at h
  simp only at h
  split at h
  case isFalse => cases h
  rename_i hver
  cases h
  obtain ⟨l, g, cap, hl, he, hmp, hp, rfl, es, clock, b1, b2, b3⟩ := aF hI rx hj hver.1
  have := key_val rk
  subst this
  have rv' : PRep c.prot y vv := by cases rv; assumption
  have hkey : MapKept.IsKey (.int .i64) (.int .i64 n) := by simp [MapKept.IsKey]
  rcases find_ok (pr := c.prot) n es.toList e.elems 0 (by simpa using b2) (fun i x hi => by simpa using b3 i x hi) with ⟨y', i', me, a1, a2, a3, a4, a5, a6⟩ | ⟨a1, a2, a3⟩
  ·have a3' : es[i']? = some me := by simpa using a3
   have hlt : i' < es.size := (Array.getElem?_eq_some_iff.1 a3').1
   obtain ⟨hs, hi⟩ := hI.setMap hj hl hp hmp b1 (es.modify i' fun e => { e with key := .int .i64 n, val := vv }) clock (wU n y e.elems) (by rw [a6]; simp [b2]) (fun i x hi => by
    rw [a6] at hi
    by_cases hii : i' = i
    ·subst hii
     rw [List.getElem?_set_self (by rw [← b2]; exact hlt)] at hi
     cases hi
     exact ⟨{ me with key := .int .i64 n, val := vv }, n, y, by simp [Array.getElem?_modify, a3'], rfl, rfl, rv'⟩
    ·rw [List.getElem?_set_ne hii] at hi
     obtain ⟨me', k, y', c1, c2, c3, c4⟩ := b3 i x hi
     exact ⟨me', k, y', by rw [Array.getElem?_modify, if_neg hii]; exact c1, c2, c3, c4⟩)
   refine ⟨_, c, ?_, hs, hi, rfl⟩
   simp only [Nat.zero_add] at a2
   simp [Instr.mapUpdate, run_underlying h1, MapKept.run_getObj_map b1, MapKept.run_checkKey h2 hkey, MapKept.run_findKey h2 a2, a3', a4, MapKept.run_keyThatStays hkey, MapKept.run_setObj_map _ b1]
  ·obtain ⟨hs, hi⟩ := hI.setMap hj hl hp hmp b1 (es.push { key := .int .i64 n, val := vv, born := clock }) (clock + 1) (wU n y e.elems) (by rw [a3]; simp [b2]) (fun i x hi => by
    rw [a3] at hi
    by_cases hii : i < e.elems.length
    ·rw [List.getElem?_append_left hii] at hi
     obtain ⟨me', k, y', c1, c2, c3, c4⟩ := b3 i x hi
     exact ⟨me', k, y', by rw [Array.getElem?_push_lt (by rw [b2]; exact hii), ← c1]; simp, c2, c3, c4⟩
    ·have hi0 : i = e.elems.length := by
      have := (List.getElem?_eq_some_iff.1 hi).1; simp at this; omega
     subst hi0
     rw [List.getElem?_append_right (by omega)] at hi
     simp at hi
     subst hi
     exact ⟨{ key := .int .i64 n, val := vv, born := clock }, n, y, by rw [← b2]; simp, rfl, rfl, rv'⟩)
   refine ⟨_, c, ?_, hs, hi, rfl⟩
   simp [Instr.mapUpdate, run_underlying h1, MapKept.run_getObj_map b1, MapKept.run_checkKey h2 hkey, MapKept.run_findKey h2 a2, MapKept.run_setObj_map _ b1]
theorem Inv.allocMap {c : Ctx} {H : zb} {w : World} (hI : Inv base c H w) :
  Step c w ⟨c.locs ++ [⟨0, 0, some (w.heap.size, 0), true⟩], c.prot⟩ (w.alloc (.map #[] 0)) ∧
  Inv base ⟨c.locs ++ [⟨0, 0, some (w.heap.size, 0), true⟩], c.prot⟩ (H ++ [⟨0, 0, false, [], 0⟩]) (w.alloc (.map #[] 0)) := by
 have hg2 := (Grew.refl w).alloc (.map #[] 0)
 have hs : Step c w ⟨c.locs ++ [⟨0, 0, some (w.heap.size, 0), true⟩], c.prot⟩ (w.alloc (.map #[] 0)) := by
  refine ⟨fun _ _ _ h => h, fun k l h => ⟨l, ?_, Nat.le_refl _, fun _ => rfl⟩, hg2.os, hg2.tape, hg2.output, hg2.size, fun b hb _ => hg2.blk b hb, fun b hb => ?_, fun _ _ _ h => .inl h⟩
  ·exact (List.getElem?_append_left (List.getElem?_eq_some_iff.1 h).1).trans h
  ·obtain ⟨k, l, cp, h1, h2⟩ := hb
   rw [List.getElem?_append] at h1
   split at h1
   ·exact .inl ⟨k, l, cp, h1, h2⟩
   ·rename_i hk
    have : k - c.locs.length = 0 := by
     by_cases h0 : k - c.locs.length = 0
     ·exact h0
     ·rw [List.getElem?_eq_none (by simp; omega)] at h1; cases h1
    rw [this] at h1; simp at h1; subst h1; simp at h2; right; omega
 refine ⟨hs, hI.base, by simp [hI.len], fun b o v hv => ?_, fun k e l h1 h2 => ?_, fun k k' l l' g cp cp' h1 h2 h3 h4 => ?_⟩
 ·rw [cell_of_heap (hg2.blk b (hI.prot_lt hv))]; exact hI.prot b o v hv
 ·by_cases hk : k < H.length
  ·rw [List.getElem?_append_left hk] at h1
   rw [List.getElem?_append_left (by rw [hI.len]; exact hk)] at h2
   exact (hI.ent k e l h1 h2).keep hs (fun g cap hl => hg2.blk g (hI.loced_lt ⟨k, l, cap, h2, hl⟩)) (fun _ _ _ _ _ h => h)
  ·have hk0 : k = H.length := by
    have := (List.getElem?_eq_some_iff.1 h1).1; simp at this; omega
   subst hk0
   rw [List.getElem?_append_right (by omega)] at h1
   rw [List.getElem?_append_right (by rw [hI.len]; omega), hI.len] at h2
   simp at h1 h2
   subst h1; subst h2
   have hq : (w.alloc (.map #[] 0)).heap[w.heap.size]? = some (.map #[] 0) := heap_alloc_new _ _
   refine ⟨rfl, rfl, rfl, fun h => (by cases h), by simp, fun g cp cur' ty' fr' hl hh => ?_, fun g cp hl _ => ?_, fun _ _ _ hm => by cases hm⟩
   ·simp at hl
    obtain ⟨rfl, rfl⟩ := hl
    rw [hq] at hh
    cases hh
   ·simp at hl
    obtain ⟨rfl, rfl⟩ := hl
    exact ⟨#[], 0, hq, rfl, by simp⟩
 ·have lt : ∀ {k : Nat} {l : Loc} {g cp : Nat}, (c.locs ++ [⟨0, 0, some (w.heap.size, 0), true⟩])[k]? = some l → l.place = some (g, cp) → (k < c.locs.length ∧ c.locs[k]? = some l ∧ g < w.heap.size) ∨ (k = c.locs.length ∧ g = w.heap.size) := by
   intro k l g cp a b
   by_cases hk : k < c.locs.length
   ·rw [List.getElem?_append_left hk] at a
    exact .inl ⟨hk, a, hI.loced_lt ⟨k, l, cp, a, b⟩⟩
   ·have hk0 : k = c.locs.length := by have := (List.getElem?_eq_some_iff.1 a).1; simp at this; omega
    subst hk0
    simp at a; subst a; simp at b
    exact .inr ⟨rfl, b.1.symm⟩
  rcases lt h1 h3 with ⟨a1, a2, a3⟩ | ⟨a1, a2⟩ <;> rcases lt h2 h4 with ⟨b1, b2, b3⟩ | ⟨b1, b2⟩
  ·exact hI.inj k k' l l' g cp cp' a2 b2 h3 h4
  ·omega
  ·omega
  ·omega
theorem mkm_ok {T : Tab} {c : Ctx} {H : zb} {w : World} (hI : Inv base c H w) {fr : AFr} {t : TypeId}
  {x : AVal} {H' : zb} (h : zn T .mkm fr H = some (x, H')) : Done P base (Instr.makeMap t none) c w x H' := by
 simp only [zn] at h
 cases h
 obtain ⟨hs, hi⟩ := hI.allocMap
 refine ⟨.map (some w.heap.size), _, _, rfl, hs, hi, .omap _ _ ⟨0, 0, some (w.heap.size, 0), true⟩ _ ?_ (Nat.le_refl _) (fun _ => ⟨rfl, _, _, rfl, rfl⟩) ⟨_, rfl⟩⟩
 rw [← hI.len]
 simp
end Go.Abs

namespace Go.Abs
variable {P : Program} {base : Prot}
def After (P : Program) (base : Prot) (o : Oper) (a : Act) (c : Ctx) (w : World) (x : AVal) (H' : zb) : Prop :=
 ∀ (next : Act → World → Prop) (Q : Exit → Act → World → Prop), (∀ v c' w', Step c w c' w' → Inv base c' H' w' → Rep c' x v → next (a.put o.dst v) w') → o.wp P a w next Q
theorem After.of_done {o : Oper} {a : Act} {c : Ctx} {w : World} {x : AVal} {H' : zb} {s : Sem Value} (he : execOp a.eval o = (do let v ← s; pure (.value v))) (h : Done P base s c w x H') : After P base o a c w x H' := by
 intro next Q hn
 obtain ⟨v, w', c', hr, hs, hi, hrep⟩ := h
 unfold Oper.wp
 rw [he]
 simp only [Sem.run_bind, hr, Result.andThen_ok, Sem.run_pure]
 exact hn v c' w' hs hi hrep
theorem After.of_run {o : Oper} {a : Act} {c : Ctx} {w : World} {H : zb} {x : AVal} {v : Value} (hI : Inv base c H w) (he : (execOp a.eval o).run P w = .ok (.value v) w) (hr : Rep c x v) : After P base o a c w x H := by
 intro next Q hn
 unfold Oper.wp
 rw [he]
 exact hn v c w (.refl _ _) hI hr
section
variable {gl : Nat → AVal} {n : Nat}
theorem ud {α β : Type} (l : Array α) (f : α → β) : l.map f = (l.toList.map f).toArray := by
 cases l; simp
theorem After.call {T : Tab} (hT : TabOk P base T) {c : Ctx} {H : zb} {w : World} (hI : Inv base c H w) {o : Oper} {a : Act} {f : FuncId} {args : List AVal} {vs : List Value} (hr : RepL c args vs)
  (he : ju P f = true → (execOp a.eval o).run P w = .ok (.enter f vs.toArray) w) {x : AVal} {H' : zb} (h : mg T f args H = some (x, H')) : After P base o a c w x H' := by
 intro next Q hn
 obtain ⟨hg, hc⟩ := callF_ok hT hI hr h
 unfold Oper.wp
 rw [he hg]
 refine hc.mono fun e w' ⟨v, c', he, hs, hi, hrep⟩ => ?_
 subst he
 exact hn v c' w' hs hi hrep
theorem bl {f : FuncId} (hg : ju P f = true) (args : Array Value) (w : World) : (callFunc f args).run P w = .ok (.enter f args) w := by
 unfold ju at hg
 cases hf : P.funcs[f]? with
 | none => rw [hf] at hg; cases hg
 | some fn =>
  rw [hf] at hg
  simp only [Bool.and_eq_true, Bool.not_eq_true'] at hg
  have h1 : ¬ fn.name = "runtime.NumGoroutine" := by simpa using hg.1
  have h2 : ¬ fn.body = none := fun h => by rw [h] at hg; simp at hg
  simp [callFunc, hf, h1, h2]
theorem xL {o : Operand} (h : oh o = true) : o = .const (.slice none 0 0) := by
 unfold oh at h
 split at h
 ·rfl
 ·cases h
theorem After.ext {T : Tab} (hT : TabOk P base T) {c : Ctx} {H : zb} {w : World} (hI : Inv base c H w) {o : Oper} {a : Act} {f : FuncId} {ps : List PVal} {vs : List Value} (hr : RepL c (ps.map .p) vs) {p : PVal} (h : T.ex f ps = some p)
  (he : execOp a.eval o = callFunc f vs.toArray) : After P base o a c w (.p p) H := by
 obtain ⟨fn, e, h1, h2, h3, h4, h5, h6⟩ := hT.ex f ps p h
 have hlen : vs.length = ps.length := by simpa using hr.1
 obtain ⟨v, hv, hp⟩ := h6 c.prot w vs hlen (fun j y u hy hu => by
  have := hr.2 j (.p y) u (by simp [hy]) hu
  cases this with | p _ _ h => exact h)
 refine .of_run hI (v := v) ?_ (.p _ _ hp)
 rw [he]
 have h2' : ¬ fn.name = "runtime.NumGoroutine" := by simpa using h2
 have h4' : Extern.findNext fn = none := by simpa using h4
 have h3' : fn.body = none := by simpa using h3
 simp [callFunc, h1, h2', h3', h4', h5, hv]
theorem op_sound {T : Tab} (hT : TabOk P base T) (hg : qK base gl) {c : Ctx} {H : zb} {w : World} (hI : Inv base c H w) {fr : AFr} {a : Act} (hs : Sim n c fr a) (o : Oper) {x : AVal} {H' : zb}
  (h : zn T (bU P gl n o.op) fr H = some (x, H')) : After P base o a c w x H' := by
 have R := sx hg hs hI.base
 have RL := opds_ok hg hs hI.base
 have bad : ∀ {x : AVal} {H' : zb}, zn T .bad fr H = some (x, H') → False := fun h => by simp [zn] at h
 obtain ⟨dst, op, ty, pos, after, guard⟩ := o
 cases op <;> simp only [bU] at h
 case move y => simp only [zn] at h; cases h; exact .of_run hI rfl (R y)
 case assign y => simp only [zn] at h; cases h; exact .of_run hI rfl (R y)
 case pick cc y z =>
  simp only [zn] at h
  split at h
  case h_2 => cases h
  rename_i t hc
  cases h
  have rc := R cc
  rw [hc] at rc
  have hv : a.eval cc = .bool t := by
   generalize a.eval cc = v at rc
   cases rc with | p _ _ rc => cases rc; rfl
  cases t with
  | true => exact .of_run hI (v := a.eval y) (by simp [execOp, hv, asBool]) (R y)
  | false => exact .of_run hI (v := a.eval z) (by simp [execOp, hv, asBool]) (R z)
 case alloc e => exact .of_done rfl (alloc_ok hI h)
 case box e y => exact .of_done rfl (box_ok hI (R y) h)
 case build t parts =>
  split at h
  ·rename_i fields hu
   split at h
   ·rename_i hf
    have hd := iH (P := P) (base := base) (T := T) (t := t) hI (place := fun i => (fields.toList.map fun f => (f.offset, zh P f.type)).toArray[i]?) (parts := parts.toList.map fun (i, x) => match fields[i]? with | some f => (f.offset, zh P f.type, zY gl n x) | none => (0, 0, .cst .junk))
     (mparts := parts.toList.map fun (i, x) => (i, a.eval x)) (by simp) (fun j p q h1 h2 => by
      simp only [List.getElem?_map] at h1 h2
      cases hj : parts.toList[j]? with
      | none => rw [hj] at h1; cases h1
      | some ix =>
       obtain ⟨i, y⟩ := ix
       rw [hj] at h1 h2
       simp only [Option.map_some, Option.some.injEq] at h1 h2
       subst h2
       cases hfi : fields[i]? with
       | none => rw [hfi] at h1; subst h1; exact ⟨.inr rfl, .junk _⟩
       | some f =>
        rw [hfi] at h1; subst h1
        refine ⟨.inl ?_, R y⟩
        have : fields.toList[i]? = some f := by simpa using hfi
        simp [this]) (fun inf z h1 h2 r hr => by
      unfold Program.built
      simp only [h1, hu, h2, places_ok hf]
      exact hr) h
    refine .of_done ?_ hd
    simp [execOp]
    rw [ud]
   ·exact absurd h (fun h => bad h)
  ·rename_i len e hu
   split at h
   ·rename_i hf
    obtain ⟨d, hd⟩ := Option.isSome_iff_exists.1 hf
    obtain ⟨ie, hie⟩ := bX hd
    have hsz : zh P e = ie.size := by simp [zh, hd, hie]
    have hd := iH (P := P) (base := base) (T := T) (t := t) hI (place := fun i => some (i * zh P e, zh P e)) (parts := parts.toList.map fun (i, x) => (i * zh P e, zh P e, zY gl n x))
     (mparts := parts.toList.map fun (i, x) => (i, a.eval x)) (by simp) (fun j p q h1 h2 => by
      simp only [List.getElem?_map] at h1 h2
      cases hj : parts.toList[j]? with
      | none => rw [hj] at h1; cases h1
      | some ix =>
       obtain ⟨i, y⟩ := ix
       rw [hj] at h1 h2
       simp only [Option.map_some, Option.some.injEq] at h1 h2
       subst h2; subst h1
       exact ⟨.inl rfl, R y⟩) (fun inf z h1 h2 r hr => by
      unfold Program.built
      simp only [h1, hu, h2, hie]
      rw [← hsz]
      exact hr) h
    refine .of_done ?_ hd
    simp [execOp]
    rw [ud]
   ·exact absurd h (fun h => bad h)
  ·exact absurd h (fun h => bad h)
 case buildSlice t len parts =>
  split at h
  ·rename_i e hu
   have hd := buildSl_ok (P := P) (base := base) (T := T) hI hu (parts := parts.toList.map fun (i, x) => (i, zY gl n x)) (mparts := parts.toList.map fun (i, x) => (i, a.eval x)) (by simp) (fun j p q h1 h2 => by
      simp only [List.getElem?_map] at h1 h2
      cases hj : parts.toList[j]? with
      | none => rw [hj] at h1; cases h1
      | some ix =>
       obtain ⟨i, y⟩ := ix
       rw [hj] at h1 h2
       simp only [Option.map_some, Option.some.injEq] at h1 h2
       subst h2; subst h1
       exact ⟨rfl, R y⟩) h
   refine .of_done ?_ hd
   simp [execOp]
   rw [ud]
  ·exact absurd h (fun h => bad h)
 case load t y =>
  split at h
  case isFalse => exact absurd h (fun h => bad h)
  rename_i hd
  obtain ⟨d, hd⟩ := Option.isSome_iff_exists.1 hd
  exact .of_done rfl (load_ok hI hd (R y) h)
 case store t y z =>
  split at h
  case isFalse => exact absurd h (fun h => bad h)
  rename_i hd
  obtain ⟨d, hd⟩ := Option.isSome_iff_exists.1 hd
  obtain ⟨w', c', h1, h2, h3, rfl⟩ := store_ok hI hd (R y) (R z) h
  intro next Q hn
  unfold Oper.wp
  have : (execOp a.eval ⟨dst, .store t y z, ty, pos, after, guard⟩).run P w = .ok .skip w' := by
   simp [execOp, h1]
  rw [this]
  exact hn undef c' w' h2 h3 (.p _ _ (.tup [] [] rfl (by simp)))
 case nilCheck y =>
  obtain ⟨h1, rfl, h2⟩ := nilc_ok (o := ⟨dst, .nilCheck y, ty, pos, after, guard⟩) hI rfl (R y) h
  exact .of_run hI h1 h2
 case binOp op t y z yt =>
  split at h
  · -- ==
   split at h
   ·rename_i h1; exact .of_done rfl (eqB_ok (ox := y) (oy := z) hI (neg := false) rfl h1 (R y) (R z) h)
   ·exact .of_done rfl (bm (ox := y) (oy := z) hI (R y) (R z) h)
   ·exact .of_done rfl (bm (ox := y) (oy := z) hI (R y) (R z) h)
   ·exact .of_done rfl (bm (ox := y) (oy := z) hI (R y) (R z) h)
   ·exact .of_done rfl (bm (ox := y) (oy := z) hI (R y) (R z) h)
   ·split at h
    ·rename_i ks h1; exact .of_done rfl (eqA_ok (ox := y) (oy := z) hI (neg := false) rfl h1 (R y) (R z) h)
    ·split at h
     ·rename_i e h1; exact .of_done rfl (oF (ox := y) (oy := z) hI (neg := false) (fn := false) rfl ⟨e, h1⟩ (R y) (R z) h)
     ·rename_i x1 x2 x3 h1; exact .of_done rfl (oF (ox := y) (oy := z) hI (neg := false) (fn := true) rfl ⟨_, _, _, h1⟩ (R y) (R z) h)
     ·rename_i e h1
      split at h
      ·rename_i hz
       have hz' := xL hz
       subst hz'
       exact .of_done rfl (eqS_ok (ox := y) (oy := .const (.slice none 0 0)) hI (neg := false) rfl h1 (R y) h)
      ·exact absurd h (fun h => bad h)
     ·rename_i ms h1
      split at h
      ·rename_i hz
       have hz' := xK hz
       subst hz'
       exact .of_done rfl (eqI_ok (ox := y) hI (neg := false) rfl h1 (R y) h)
      ·exact absurd h (fun h => bad h)
     ·exact absurd h (fun h => bad h)
  ·split at h
   ·rename_i h1; exact .of_done rfl (eqB_ok (ox := y) (oy := z) hI (neg := true) rfl h1 (R y) (R z) h)
   ·exact .of_done rfl (bm (ox := y) (oy := z) hI (R y) (R z) h)
   ·exact .of_done rfl (bm (ox := y) (oy := z) hI (R y) (R z) h)
   ·exact .of_done rfl (bm (ox := y) (oy := z) hI (R y) (R z) h)
   ·exact .of_done rfl (bm (ox := y) (oy := z) hI (R y) (R z) h)
   ·split at h
    ·rename_i ks h1; exact .of_done rfl (eqA_ok (ox := y) (oy := z) hI (neg := true) rfl h1 (R y) (R z) h)
    ·split at h
     ·rename_i e h1; exact .of_done rfl (oF (ox := y) (oy := z) hI (neg := true) (fn := false) rfl ⟨e, h1⟩ (R y) (R z) h)
     ·rename_i x1 x2 x3 h1; exact .of_done rfl (oF (ox := y) (oy := z) hI (neg := true) (fn := true) rfl ⟨_, _, _, h1⟩ (R y) (R z) h)
     ·rename_i e h1
      split at h
      ·rename_i hz
       have hz' := xL hz
       subst hz'
       exact .of_done rfl (eqS_ok (ox := y) (oy := .const (.slice none 0 0)) hI (neg := true) rfl h1 (R y) h)
      ·exact absurd h (fun h => bad h)
     ·rename_i ms h1
      split at h
      ·rename_i hz
       have hz' := xK hz
       subst hz'
       exact .of_done rfl (eqI_ok (ox := y) hI (neg := true) rfl h1 (R y) h)
      ·exact absurd h (fun h => bad h)
     ·exact absurd h (fun h => bad h)
  ·exact .of_done rfl (bm (ox := y) (oy := z) hI (R y) (R z) h)
 case unOp op t y => exact .of_done rfl (un_ok hI (R y) h)
 case convert s t y =>
  split at h
  ·rename_i h1 h2; exact .of_done rfl (toInt_ok hI h1 h2 (R y) h)
  ·rename_i h1 h2; exact .of_done rfl (i2f_ok hI h1 h2 (R y) h)
  ·rename_i h1 h2; exact .of_done rfl (f2i_ok hI h1 h2 (R y) h)
  ·rename_i h1 h2; exact .of_done rfl (same_ok hI h1 h2 (R y) h)
  ·rename_i e h1 h2
   split at h
   ·rename_i h3; exact .of_done rfl (s2b_ok hI h1 h2 h3 (R y) h)
   ·exact absurd h (fun h => bad h)
  ·rename_i e0 e h1 h2
   split at h
   ·rename_i hst
    subst hst
    split at h
    ·rename_i h3; exact .of_done rfl (mark_ok hI h2 h3 (R y) h)
    ·exact absurd h (fun h => bad h)
   ·exact absurd h (fun h => bad h)
  ·rename_i e h1 h2
   split at h
   ·rename_i h3; exact .of_done rfl (b2s_ok hI h1 h2 h3 (R y) h)
   ·exact absurd h (fun h => bad h)
  ·exact absurd h (fun h => bad h)
 case makeFunc fn first caps =>
  split at h
  ·rename_i f
   split at h
   ·rename_i h1
    have e1 : first = #[] := Array.eq_empty_of_size_eq_zero h1
    subst e1
    have := mkf_ok (P := P) (f := f) hI (RL caps.toList) h
    refine .of_done ?_ this
    simp [execOp]
    rw [ud]
   ·exact absurd h (fun h => bad h)
  ·exact absurd h (fun h => bad h)
 case makeSlice t l cc =>
  split at h
  ·rename_i e h1; exact .of_done rfl (mksl_ok hI h1 (R l) (R cc) h)
  ·exact absurd h (fun h => bad h)
 case makeMap t r =>
  cases r with
  | none => exact .of_done rfl (mkm_ok (t := t) hI h)
  | some _ => exact absurd h (fun h => bad h)
 case lookup t y z ok =>
  split at h
  ·rename_i e h1; exact .of_done rfl (mget_ok hI h1 (R y) (R z) h)
  ·exact absurd h (fun h => bad h)
 case mapUpdate t m k y =>
  split at h
  ·rename_i e h1
   obtain ⟨w', c', h1, h2, h3, rfl⟩ := mset_ok hI h1 (R m) (R k) (R y) h
   intro next Q hn
   unfold Oper.wp
   have : (execOp a.eval ⟨dst, .mapUpdate t m k y, ty, pos, after, guard⟩).run P w = .ok .skip w' := by
    simp [execOp, h1]
   rw [this]
   exact hn undef c' w' h2 h3 (.p _ _ (.tup [] [] rfl (by simp)))
  ·exact absurd h (fun h => bad h)
 case slice t y lo hi mx =>
  have rep : ∀ (o : Option Operand) x v, o.map (zY gl n) = some x → o.map a.eval = some v → Rep c (opd fr x) v := fun o x v h1 h2 => by
   cases o with
   | none => cases h1
   | some o => simp at h1 h2; subst h1; subst h2; exact R o
  split at h
  ·rename_i h1
   split at h
   ·rename_i h2
    have : mx = none := by cases mx with | none => rfl | some v => simp at h2
    subst this
    exact .of_done rfl (slStr_ok hI h1 (R y) (by simp) (by simp) (rep lo) (rep hi) h)
   ·exact absurd h (fun h => bad h)
  ·rename_i e h1
   split at h
   ·exact absurd h (fun h => bad h)
   ·rename_i h2
    exact .of_done rfl (slSl_ok hI h1 h2 (R y) (by simp) (by simp) (by simp) (rep lo) (rep hi) (rep mx) h)
  ·exact absurd h (fun h => bad h)
 case fieldAddr t y f =>
  split at h
  ·rename_i fields h1
   split at h
   ·rename_i g h2
    split at h
    ·exact absurd h (fun h => bad h)
    ·rename_i h3; exact .of_done rfl (fadr_ok hI h1 h2 h3 (R y) h)
   ·exact absurd h (fun h => bad h)
  ·exact absurd h (fun h => bad h)
 case field t y f =>
  split at h
  ·rename_i fields h1
   split at h
   ·rename_i g h2
    split at h
    ·rename_i h3
     obtain ⟨d, hd⟩ := Option.isSome_iff_exists.1 h3
     exact .of_done rfl (fld_ok hI h1 h2 hd (R y) h)
    ·exact absurd h (fun h => bad h)
   ·exact absurd h (fun h => bad h)
  ·exact absurd h (fun h => bad h)
 case indexAddr t y i =>
  split at h
  ·rename_i e h1
   split at h
   ·exact absurd h (fun h => bad h)
   ·rename_i h2; exact .of_done rfl (iadr_ok hI h1 h2 (R y) (R i) h)
  ·rename_i len e h1
   split at h
   ·exact absurd h (fun h => bad h)
   ·rename_i h2; exact .of_done rfl (iaadr_ok hI h1 h2 (R y) (R i) h)
  ·exact absurd h (fun h => bad h)
 case index t y i =>
  split at h
  ·rename_i h1; exact .of_done rfl (istr_ok hI h1 (R y) (R i) h)
  ·rename_i len e h1
   split at h
   ·rename_i h2
    obtain ⟨d, hd⟩ := Option.isSome_iff_exists.1 h2
    exact .of_done rfl (iarr_ok hI h1 hd (R y) (R i) h)
   ·exact absurd h (fun h => bad h)
  ·exact absurd h (fun h => bad h)
 case extract y i => exact .of_done rfl (ext_ok hI (R y) h)
 case call cl =>
  obtain ⟨callee, args, argTypes⟩ := cl
  simp only at h
  split at h
  ·rename_i o
   split at h
   ·rename_i f
    split at h
    ·rename_i hgf
     simp only [zn] at h
     refine .call hT hI (RL args.toList) (fun _ => ?_) h
     have e0 : a.eval (.func f) = .func (.func f) #[] #[] := rfl
     rw [← ud]
     simp [execOp, resolve, Deferred.ofValue, invoke, e0, bl hgf]
    ·simp only [zn] at h
     cases hps : j3 ((args.toList.map (zY gl n)).map (opd fr)) with
     | none => rw [hps] at h; cases h
     | some ps =>
      rw [hps] at h
      simp only at h
      cases hx : T.ex f ps with
      | none => rw [hx] at h; cases h
      | some p =>
       rw [hx] at h
       cases h
       have hr := RL args.toList
       rw [jG hps] at hr
       refine .ext hT hI hr hx ?_
       have e0 : a.eval (.func f) = .func (.func f) #[] #[] := rfl
       rw [← ud]
       simp [execOp, resolve, Deferred.ofValue, invoke, e0]
   · -- a function value
    simp only [zn] at h
    have ro := R o
    split at h
    ·rename_i f caps hx
     rw [hx] at ro
     generalize hv : a.eval o = vo at ro
     cases ro with
     | p _ _ ro =>
      cases ro with
      | clo _ _ cs hl hr =>
       refine .call hT hI ((RL args.toList).append (PRep.toRep hl hr)) (fun hgf => ?_) h
       rw [← List.append_toArray, ← ud]
       simp [execOp, resolve, Deferred.ofValue, invoke, hv, bl hgf]
    ·rename_i f caps hx
     rw [hx] at ro
     generalize hv : a.eval o = vo at ro
     cases ro with
     | clo _ _ cs hl hr =>
      refine .call hT hI ((RL args.toList).append ⟨hl, hr⟩) (fun hgf => ?_) h
      rw [← List.append_toArray, ← ud]
      simp [execOp, resolve, Deferred.ofValue, invoke, hv, bl hgf]
    ·cases h
  · -- a builtin
   rename_i b
   have two : ∀ (l : List Operand), args.toList = l → args = l.toArray := fun l h => by rw [← h]
   have typ : ∀ (l : List TypeId), argTypes.toList = l → argTypes = l.toArray := fun l h => by rw [← h]
   unfold kq at h
   split at h
   · -- one operand
    rename_i y hl
    have ha := two _ hl
    subst ha
    have ex : ∀ s : Sem Value, (∀ consts, builtin b argTypes ty consts #[a.eval y] = (do let v ← s; pure (.value v))) → execOp a.eval ⟨dst, .call ⟨.builtin b, [y].toArray, argTypes⟩, ty, pos, after, guard⟩ = (do let v ← s; pure (.value v)) := fun s hb => by simp [execOp, resolve, invoke, hb]
    unfold jD at h
    split at h
    · -- len
     split at h
     ·rename_i t ht
      split at h
      ·rename_i hu
       exact .of_done (ex _ (fun _ => rfl)) (lenS_ok (ty := ty) hI hu (R y) ht h)
      ·rename_i e hu
       exact .of_done (ex _ (fun _ => rfl)) (len_ok (ty := ty) hI hu (R y) ht h)
      ·exact absurd h (fun h => bad h)
     ·exact absurd h (fun h => bad h)
    ·exact .of_done (ex _ (fun _ => rfl)) (re_ok (ts := argTypes) (ty := ty) hI (R y) h)
    ·exact .of_done (ex _ (fun _ => rfl)) (im_ok (ts := argTypes) (ty := ty) hI (R y) h)
    · -- clear
     split at h
     ·rename_i t htl
      have ht2 := typ _ htl
      subst ht2
      split at h
      ·rename_i e hu
       split at h
       ·rename_i hz
        exact .of_done (ex _ (fun _ => rfl)) (clr_ok (ty := ty) hI hu hz.2.2 hz.1 hz.2.1 (R y) h)
       ·exact absurd h (fun h => bad h)
      ·exact absurd h (fun h => bad h)
     ·exact absurd h (fun h => bad h)
    ·exact absurd h (fun h => bad h)
   ·rename_i y z hl
    have ha := two _ hl
    subst ha
    have ex : ∀ s : Sem Value, (∀ consts, builtin b argTypes ty consts #[a.eval y, a.eval z] = (do let v ← s; pure (.value v))) → execOp a.eval ⟨dst, .call ⟨.builtin b, [y, z].toArray, argTypes⟩, ty, pos, after, guard⟩ = (do let v ← s; pure (.value v)) := fun s hb => by simp [execOp, resolve, invoke, hb]
    unfold jC at h
    split at h
    · -- append
     split at h
     ·rename_i t u htl
      split at h
      ·rename_i e hu
       have ht2 := typ _ htl
       subst ht2
       split at h
       ·rename_i hz
        split at h
        ·rename_i htu
         subst htu
         exact .of_done (ex _ (fun _ => rfl)) (app_ok (ty := ty) hI hu hz.1 hz.2 (R y) (R z) h)
        ·split at h
         ·rename_i hus
          split at h
          ·rename_i hs1
           exact .of_done (ex _ (fun _ => rfl)) (appS_ok (ty := ty) hI hu hus hs1 hz.1 hz.2 (R y) (R z) h)
          ·exact absurd h (fun h => bad h)
         ·exact absurd h (fun h => bad h)
       ·exact absurd h (fun h => bad h)
      ·exact absurd h (fun h => bad h)
     ·exact absurd h (fun h => bad h)
    · -- copy
     split at h
     ·rename_i t u htl
      split at h
      ·rename_i htu
       subst htu
       have ht2 := typ _ htl
       subst ht2
       split at h
       ·rename_i e hu
        split at h
        ·exact absurd h (fun h => bad h)
        ·rename_i hz
         exact .of_done (ex _ (fun _ => rfl)) (cpy_ok (ty := ty) hI hu hz (R y) (R z) h)
       ·exact absurd h (fun h => bad h)
      ·exact absurd h (fun h => bad h)
     ·exact absurd h (fun h => bad h)
    ·have := xA (P := P) (mx := true) (ts := argTypes) (ty := ty) hI (R y) (R z) h
     exact .of_done (ex _ (fun _ => rfl)) this
    ·have := xA (P := P) (mx := false) (ts := argTypes) (ty := ty) hI (R y) (R z) h
     exact .of_done (ex _ (fun _ => rfl)) this
    ·exact .of_done (ex _ (fun _ => rfl)) (cpx_ok (ts := argTypes) (ty := ty) hI (R y) (R z) h)
    ·exact absurd h (fun h => bad h)
   ·rename_i y z u hl
    have ha := two _ hl
    subst ha
    have ex : ∀ s : Sem Value, (∀ consts, builtin b argTypes ty consts #[a.eval y, a.eval z, a.eval u] = (do let v ← s; pure (.value v))) → execOp a.eval ⟨dst, .call ⟨.builtin b, [y, z, u].toArray, argTypes⟩, ty, pos, after, guard⟩ = (do let v ← s; pure (.value v)) := fun s hb => by simp [execOp, resolve, invoke, hb]
    unfold jB at h
    split at h
    ·have := sF (P := P) (mx := true) (ts := argTypes) (ty := ty) hI (R y) (R z) (R u) h
     exact .of_done (ex _ (fun _ => rfl)) this
    ·have := sF (P := P) (mx := false) (ts := argTypes) (ty := ty) hI (R y) (R z) (R u) h
     exact .of_done (ex _ (fun _ => rfl)) this
    ·exact absurd h (fun h => bad h)
   ·exact absurd h (fun h => bad h)
  ·exact absurd h (fun h => bad h)
 case insert t m k y =>
  split at h
  ·rename_i e h1
   obtain ⟨w', c', h1, h2, h3, rfl⟩ := mset_ok hI h1 (R m) (R k) (R y) h
   intro next Q hn
   unfold Oper.wp
   have : (execOp a.eval ⟨dst, .insert t m k y, ty, pos, after, guard⟩).run P w = .ok .skip w' := by
    simp [execOp, h1]
   rw [this]
   exact hn undef c' w' h2 h3 (.p _ _ (.tup [] [] rfl (by simp)))
  ·exact absurd h (fun h => bad h)
 all_goals exact absurd h (fun h => bad h)
end
end Go.Abs
namespace Go.Abs
variable {P : Program} {base : Prot}
section
variable {gl : Nat → AVal} {n : Nat}
theorem Sim.step {c c' : Ctx} {w w' : World} (h : Step c w c' w') {fr : AFr} {a : Act} (s : Sim n c fr a) : Sim n c' fr a := ⟨s.1, fun i hi => (s.2 i hi).step h⟩
theorem Sim.put {c : Ctx} {fr : AFr} {a : Act} (s : Sim n c fr a) {x : AVal} {v : Value} (r : Rep c x v) (d : Option Nat) : Sim n c (Abs.put fr d x) (a.put d v) := by
 cases d with
 | none => exact s
 | some d =>
  refine ⟨by simp [Act.put, s.1], fun i hi => ?_⟩
  simp only [Abs.put, upd, Act.put]
  have hs : i < a.tmps.size := by rw [s.1]; exact hi
  by_cases hid : i = d
  ·subst hid
   rw [if_pos rfl]
   have : (a.tmps.setIfInBounds i v).getD i undef = v := by simp [Array.getD, hs]
   rw [this]; exact r
  ·rw [if_neg hid]
   have : (a.tmps.setIfInBounds d v).getD i undef = a.tmps.getD i undef := by
    simp [Array.getD, hs]
    rw [Array.getElem_setIfInBounds_ne hs (Ne.symm hid)]
   rw [this]; exact s.2 i hi
theorem put_defers (a : Act) (d : Option Nat) (v : Value) : (a.put d v).defers = a.defers := by cases d <;> rfl
theorem dJ {T : Tab} (hT : TabOk P base T) (hg : qK base gl) (ops : Array Oper) {k : Nat} {o : Oper} (h0 : ops[k]? = some o) {c : Ctx} {H : zb} {w : World} (hI : Inv base c H w) {fr : AFr} {a : Act} (hs : Sim n c fr a) {x : AVal} {H1 : zb}
  (hev : zK T (zg P gl n ops o) fr H = some (x, H1)) (K : Act → World → Prop) (Q : Exit → Act → World → Prop) (hK : ∀ v c' w', Step c w c' w' → Inv base c' H1 w' → Rep c' x v → K (a.put o.dst v) w') : wpOp P ops Q k K a w := by
 have run : zn T (bU P gl n o.op) fr H = some (x, H1) → o.wp P a w K Q := fun hx => op_sound hT hg hI hs o hx _ _ hK
 have skip : x = .p (.tup []) → H1 = H → K (a.put o.dst undef) w := fun hx hH => by
  subst hx; subst hH
  exact hK undef c w (.refl _ _) hI (.p _ _ (.tup [] [] rfl (by simp)))
 unfold wpOp
 simp only [h0]
 unfold zg at hev
 cases hgd : o.guard with
 | none =>
  simp only [hgd, bV, zK] at hev
  rw [if_pos (by simp [Region.wanted, hgd])]
  exact .inl (run hev)
 | some jw =>
  obtain ⟨j, want⟩ := jw
  simp only [hgd, bV] at hev
  cases hb : (ops[j]?).bind (·.dst) with
  | none => rw [hb] at hev; simp [zK, zn] at hev
  | some s =>
   rw [hb] at hev
   simp only at hev
   split at hev
   case h_2 => simp [zK, zn] at hev
   rename_i g hgl
   split at hgl
   case isFalse => cases hgl
   rename_i hsn
   cases hgl
   have hss : s < a.tmps.size := by rw [hs.1]; exact hsn
   have hrep := hs.2 s hsn
   have hget : a.tmps.getD s undef = a.tmps[s] := by simp [Array.getD, hss]
   rw [hget] at hrep
   have hy : yielded ops a.tmps j = match a.tmps[s] with | .bool b => some b | _ => none := by
    unfold yielded
    rw [hb]
    simp only [Option.bind_some, Array.getElem?_eq_getElem hss]
    cases a.tmps[s] <;> rfl
   simp only [zK] at hev
   split at hev
   ·rename_i b hfs
    rw [hfs] at hrep
    have hv : a.tmps[s] = .bool b := by
     generalize a.tmps[s] = v at hrep
     cases hrep with | p _ _ hp => cases hp; rfl
    rw [hv] at hy
    simp only at hy
    split at hev
    ·rename_i hbw
     subst hbw
     rw [if_pos (by simp [Region.wanted, hgd, hy])]
     exact .inl (run hev)
    ·rename_i hbw
     simp only [Option.some.injEq, Prod.mk.injEq] at hev
     obtain ⟨h1, h2⟩ := hev
     rw [if_neg (by simp [Region.wanted, hgd, hy, hbw])]
     exact skip h1.symm h2.symm
   ·rename_i b hfs
    rw [hfs] at hrep
    have hv : ∃ vs, a.tmps[s] = .tuple vs := by
     generalize a.tmps[s] = v at hrep
     cases hrep with | p _ _ hp => cases hp; exact ⟨_, rfl⟩
    obtain ⟨vs, hv⟩ := hv
    rw [hv] at hy
    simp only at hy
    simp only [Option.some.injEq, Prod.mk.injEq] at hev
    obtain ⟨h1, h2⟩ := hev
    rw [if_neg (by simp [Region.wanted, hgd, hy])]
    exact skip h1.symm h2.symm
   ·cases hev
theorem mV {T : Tab} (hT : TabOk P base T) (hg : qK base gl) (ops : Array Oper) (Q : Exit → Act → World → Prop) : ∀ (l : List Oper) (k : Nat), (∀ j : Nat, l[j]? = ops[k + j]?) → ∀ (c : Ctx) (H : zb) (w : World) (fr : AFr) (a : Act) (fr' : AFr) (H' : zb),
  Inv base c H w → Sim n c fr a → ce T (l.map (zg P gl n ops)) fr H = some (fr', H') →
  (∀ c' w' a', Step c w c' w' → Inv base c' H' w' → Sim n c' fr' a' → a'.defers = a.defers → Q .normal a' w') → wpOps P ops Q (List.range' k l.length) a w
 | [], k, _, c, H, w, fr, a, fr', H', hI, hs, he, hq => by
  simp [ce] at he
  obtain ⟨rfl, rfl⟩ := he
  exact hq c w a (.refl _ _) hI hs rfl
 | o :: l, k, hl, c, H, w, fr, a, fr', H', hI, hs, he, hq => by
  have h0 : ops[k]? = some o := by simpa using (hl 0).symm
  have hl' : ∀ j : Nat, l[j]? = ops[k + 1 + j]? := fun j => by
   have := hl (j + 1)
   rw [Nat.add_assoc, Nat.add_comm 1 j]
   simpa using this
  simp only [List.map_cons, ce] at he
  cases hev : zK T (zg P gl n ops o) fr H with
  | none => rw [hev] at he; cases he
  | some r =>
   obtain ⟨x, H1⟩ := r
   rw [hev] at he
   simp only at he
   have hdst : (zg P gl n ops o).dst = o.dst := by unfold zg; split <;> rfl
   rw [hdst] at he
   simp only [List.length_cons, List.range'_succ, wpOps_cons]
   refine dJ hT hg ops h0 hI hs hev _ _ (fun v c' w' s' i' r' => ?_)
   exact mV hT hg ops Q l (k + 1) hl' c' H1 w' _ _ fr' H' i' ((hs.step s').put r' o.dst) he (fun c2 w2 a2 s2 i2 m2 d2 => hq c2 w2 a2 (s'.trans s2) i2 m2 (d2.trans (put_defers _ _ _)))
end
end Go.Abs

namespace Go.Abs
variable {P : Program} {base : Prot}
def Agree (l : List Nat) (fr fr' : AFr) : Prop := ∀ i ∈ l, fr i = fr' i
theorem zm {fr fr' : AFr} {x : LOpd} (h : Agree (zx x) fr fr') : opd fr x = opd fr' x := by
 cases x with
 | tmp t => exact h t (by simp [zx])
 | cst y => rfl
theorem Agree.left {a b : List Nat} {fr fr' : AFr} (h : Agree (a ++ b) fr fr') : Agree a fr fr' := fun i hi => h i (List.mem_append.2 (.inl hi))
theorem Agree.right {a b : List Nat} {fr fr' : AFr} (h : Agree (a ++ b) fr fr') : Agree b fr fr' := fun i hi => h i (List.mem_append.2 (.inr hi))
theorem yT {fr fr' : AFr} {d : Nat} {x : Option LOpd} (h : Agree (yk x) fr fr') : yU fr d x = yU fr' d x := by
 cases x with
 | none => rfl
 | some x => simp only [yU]; rw [zm (x := x) h]
theorem cL {fr fr' : AFr} {l : List LOpd} (h : Agree (l.flatMap zx) fr fr') : l.map (opd fr) = l.map (opd fr') :=
 List.map_congr_left fun x hx => zm fun i hi => h i (List.mem_flatMap.2 ⟨x, hx, hi⟩)
theorem nY {fr fr' : AFr} : ∀ (parts : List (Nat × Nat × LOpd)) (cells : List AVal), Agree (parts.flatMap fun p => zx p.2.2) fr fr' → qA (opd fr) cells parts = qA (opd fr') cells parts
 | [], _, _ => rfl
 | (off, size, x) :: r, cells, h => by
  have h1 : opd fr x = opd fr' x := zm fun i hi => h i (List.mem_flatMap.2 ⟨_, List.mem_cons_self .., hi⟩)
  have h2 : Agree (r.flatMap fun p => zx p.2.2) fr fr' := fun i hi => h i (by obtain ⟨p, hp, hq⟩ := List.mem_flatMap.1 hi; exact List.mem_flatMap.2 ⟨p, List.mem_cons_of_mem _ hp, hq⟩)
  simp only [qA, h1, nY r _ h2]
theorem cd {fr fr' : AFr} {size : Nat} : ∀ (parts : List (Nat × LOpd)) (es : List AVal), Agree (parts.flatMap fun p => zx p.2) fr fr' → zN (opd fr) size es parts = zN (opd fr') size es parts
 | [], _, _ => rfl
 | (i, x) :: r, es, h => by
  have h1 : opd fr x = opd fr' x := zm fun j hj => h j (List.mem_flatMap.2 ⟨_, List.mem_cons_self .., hj⟩)
  have h2 : Agree (r.flatMap fun p => zx p.2) fr fr' := fun i hi => h i (by obtain ⟨p, hp, hq⟩ := List.mem_flatMap.1 hi; exact List.mem_flatMap.2 ⟨p, List.mem_cons_of_mem _ hp, hq⟩)
  simp only [zN, h1, cd r _ h2]
theorem gZ {T : Tab} {fr fr' : AFr} {H : zb} (o : LOp) (h : Agree (yQ o) fr fr') : zn T o fr H = zn T o fr' H := by
 cases o <;> simp only [yQ] at h <;> simp only [zn]
 case mov x => rw [zm h]
 case pick c a b => rw [zm h.left.left, zm h.left.right, zm h.right]
 case newv s x => rw [zm h]
 case build z parts => rw [nY parts _ h]
 case buildSl s z l parts => rw [cd parts _ h]
 case load n ag a => rw [zm h]
 case store n a x => rw [zm h.left, zm h.right]
 case nilc x => rw [zm h]
 case bin op x y => rw [zm h.left, zm h.right]
 case eqB n x y => rw [zm h.left, zm h.right]
 case eqA n k x y => rw [zm h.left, zm h.right]
 case eqN n k x y => rw [zm h.left, zm h.right]
 case eqS n x y => rw [zm h.left, zm h.right]
 case eqI n x => rw [zm h]
 case calle f args => rw [cL h]
 case appS b t x y => rw [zm h.left, zm h.right]
 case un op x => rw [zm h]
 case conv k x => rw [zm h]
 case mkf f caps => rw [cL h]
 case mksl s b z l c => rw [zm h.left, zm h.right]
 case slStr x lo hi => rw [zm h.left.left, yT h.left.right]; simp only [yT h.right]
 case slSl s x lo hi mx =>
  have h4 : ∀ m, mx = some m → opd fr m = opd fr' m := fun m hm => by subst hm; exact zm h.right
  rw [zm h.left.left.left, yT h.left.left.right]
  simp only [yT h.left.right]
  cases mx with
  | none => rfl
  | some m => simp only [h4 m rfl]
 case fadr o x => rw [zm h]
 case fld o n ag x => rw [zm h]
 case iadr s x i => rw [zm h.left, zm h.right]
 case iaadr l s x i => rw [zm h.left, zm h.right]
 case istr x i => rw [zm h.left, zm h.right]
 case iarr l s ag x i => rw [zm h.left, zm h.right]
 case ext x i => rw [zm h]
 case call f args => rw [cL h]
 case callv x args => rw [zm h.left, cL h.right]
 case lenS x => rw [zm h]
 case len x => rw [zm h]
 case app s b x y => rw [zm h.left, zm h.right]
 case cpy s x y => rw [zm h.left, zm h.right]
 case clr s z x => rw [zm h]
 case minmax m x y => rw [zm h.left, zm h.right]
 case minmax3 m x y z => rw [zm h.left.left, zm h.left.right, zm h.right]
 case re x => rw [zm h]
 case im x => rw [zm h]
 case mkc x y => rw [zm h.left, zm h.right]
 case mget o z x k => rw [zm h.left, zm h.right]
 case mset x k v => rw [zm h.left.left, zm h.left.right, zm h.right]
theorem wj {T : Tab} {fr fr' : AFr} {H : zb} (o : LOper) (h : Agree (kp o) fr fr') : zK T o fr H = zK T o fr' H := by
 unfold zK
 unfold kp at h
 cases hg : o.guard with
 | none => simp only; exact gZ _ h.left
 | some sw =>
  obtain ⟨s, want⟩ := sw
  rw [hg] at h
  have hs : fr s = fr' s := h.right s (by simp)
  simp only [hs, gZ o.op h.left]
theorem cF {fr : AFr} {d : Option Nat} {v : AVal} {l : List Nat} (h : (match d with | some d => l.contains d | none => false) = false) : Agree l (put fr d v) fr := by
 intro i hi
 cases d with
 | none => rfl
 | some d =>
  simp only [put, upd]
  split
  ·rename_i hid; subst hid; simp at h; exact absurd hi h
  ·rfl
theorem xr (fr : AFr) (d e : Option Nat) (v u : AVal) (h : ¬ (d.isSome = true ∧ d = e)) : put (put fr d v) e u = put (put fr e u) d v := by
 cases d with
 | none => rfl
 | some d =>
  cases e with
  | none => rfl
  | some e =>
   have hne : d ≠ e := fun h' => h ⟨rfl, by rw [h']⟩
   funext i
   simp only [put, upd]
   by_cases h1 : i = e
   ·by_cases h2 : i = d
    ·omega
    ·simp [h1]; omega
   ·simp [h1]
theorem pz {x y : LOper} (h : kQ x y = true) : (match x.dst with | some d => (kp y).contains d | none => false) = false ∧ (match y.dst with | some d => (kp x).contains d | none => false) = false ∧ ¬ (x.dst.isSome = true ∧ x.dst = y.dst) := by
 unfold kQ dstIn at h
 simp only [Bool.and_eq_true, Bool.not_eq_true', Bool.and_eq_false_iff, beq_eq_false_iff_ne] at h
 obtain ⟨⟨h1, h2⟩, h3⟩ := h
 refine ⟨h1, h2, fun ⟨h4, h5⟩ => ?_⟩
 rcases h3 with h3 | h3
 ·rw [h4] at h3; cases h3
 ·exact h3 h5
section
variable {gl : Nat → AVal} {n : Nat} (ops : Array Oper)
theorem uR (P : Program) (gl : Nat → AVal) (n : Nat) (ops : Array Oper) (o : Oper) : (zg P gl n ops o).dst = o.dst := by unfold zg; split <;> rfl
def stA (P : Program) (gl : Nat → AVal) (n : Nat) (T : Tab) (H : zb) (ops : Array Oper) (i : Nat) (K : AFr → Prop) (fr : AFr) : Prop :=
 match ops[i]? with
 | none => K fr
 | some o => ∃ x, zK T (zg P gl n ops o) fr H = some (x, H) ∧ K (put fr o.dst x)
def anyA (P : Program) (gl : Nat → AVal) (n : Nat) (T : Tab) (H : zb) (ops : Array Oper) (Q : AFr → Prop) : Nat → Array Bool → AFr → Prop
 | 0, listed, fr => Region.ready .any ops listed = [] ∧ Q fr
 | m + 1, listed, fr => (Region.ready .any ops listed = [] → Q fr) ∧ ∀ i ∈ Region.ready .any ops listed, stA P gl n T H ops i (anyA P gl n T H ops Q m (listed.setIfInBounds i true)) fr
theorem stA_mono {T : Tab} {H : zb} {i : Nat} {K K' : AFr → Prop} (h : ∀ fr, K fr → K' fr) {fr : AFr} (hh : stA P gl n T H ops i K fr) : stA P gl n T H ops i K' fr := by
 unfold stA at *
 split
 ·rename_i ho; rw [ho] at hh; exact h _ hh
 ·rename_i o ho; rw [ho] at hh; obtain ⟨x, h1, h2⟩ := hh; exact ⟨x, h1, h _ h2⟩
theorem u1 {ds : List Deferred} {T : Tab} (hT : TabOk P base T) (hg : qK base gl) {H : zb} {Q : AFr → Prop} {Q' : Exit → Act → World → Prop} {c : Ctx} {w : World} (hQ : ∀ fr c' w' a', Step c w c' w' → Inv base c' H w' → Sim n c' fr a' → a'.defers = ds → Q fr → Q' .normal a' w') :
  ∀ (m : Nat) (listed : Array Bool) (fr : AFr) (c1 : Ctx) (w1 : World) (a1 : Act), Step c w c1 w1 → Inv base c1 H w1 → Sim n c1 fr a1 → a1.defers = ds → anyA P gl n T H ops Q m listed fr → wpAny P .any ops Q' m listed a1 w1
 | 0, _, fr, c1, w1, a1, hs, hi, hm, hd, h => ⟨h.1, hQ fr c1 w1 a1 hs hi hm hd h.2⟩
 | m + 1, listed, fr, c1, w1, a1, hs, hi, hm, hd, h => by
  refine ⟨fun h0 => hQ fr c1 w1 a1 hs hi hm hd (h.1 h0), fun i hir => ?_⟩
  have hst := h.2 i hir
  unfold stA at hst
  cases ho : ops[i]? with
  | none =>
   rw [ho] at hst
   unfold wpOp
   rw [ho]
   exact u1 hT hg hQ m _ fr c1 w1 a1 hs hi hm hd hst
  | some o =>
   rw [ho] at hst
   obtain ⟨x, h1, h2⟩ := hst
   refine dJ hT hg ops ho hi hm h1 _ _ (fun v c' w' s' i' r' => ?_)
   exact u1 hT hg hQ m _ _ c' w' _ (hs.trans s') i' ((hm.step s').put r' o.dst) ((put_defers _ _ _).trans hd) h2
theorem stA_put {T : Tab} {H : zb} {j : Nat} {oi oj : Oper} {v : AVal} (hj : ops[j]? = some oj) (hap : kQ (zg P gl n ops oi) (zg P gl n ops oj) = true) {K : AFr → Prop} {fr : AFr}
  (hy : zK T (zg P gl n ops oi) fr H = some (v, H)) (h : stA P gl n T H ops j K (put fr oi.dst v)) :
  stA P gl n T H ops j (fun fr' => zK T (zg P gl n ops oi) fr' H = some (v, H) ∧ K (put fr' oi.dst v)) fr := by
 obtain ⟨h1, h2, h3⟩ := pz hap
 rw [uR] at h1 h2
 rw [uR, uR] at h3
 unfold stA at *
 rw [hj] at h ⊢
 obtain ⟨u, hu, hk⟩ := h
 rw [wj _ (cF h1)] at hu
 refine ⟨u, hu, ?_, ?_⟩
 ·rw [wj _ (cF h2)]; exact hy
 ·rw [← xr fr oi.dst oj.dst v u h3]; exact hk
theorem anyA_first {T : Tab} {H : zb} {Q : AFr → Prop} {i : Nat} {oi : Oper} {v : AVal} (hi : ops[i]? = some oi) :
  ∀ (m : Nat) (listed : Array Bool) (fr : AFr),
   (∀ j oj, ops[j]? = some oj → j ≠ i → listed.getD j true = false → (∀ e ∈ oj.after, Region.binds .any e = true → e.on ≠ i) → kQ (zg P gl n ops oi) (zg P gl n ops oj) = true) →
   i ∈ Region.ready .any ops listed → zK T (zg P gl n ops oi) fr H = some (v, H) →
   anyA P gl n T H ops Q m (listed.setIfInBounds i true) (put fr oi.dst v) → anyA P gl n T H ops Q (m + 1) listed fr := by
 intro m
 induction m with
 | zero =>
  intro listed fr _ hr hy hh
  refine ⟨fun h => (by rw [h] at hr; cases hr), fun j hj => ?_⟩
  by_cases hji : j = i
  ·subst hji; unfold stA; rw [hi]; exact ⟨v, hy, hh⟩
  ·have := ready_mono hj hji
   rw [hh.1] at this
   cases this
 | succ m ih =>
  intro listed fr hfree hr hy hh
  refine ⟨fun h => (by rw [h] at hr; cases hr), fun j hj => ?_⟩
  by_cases hji : j = i
  ·subst hji; unfold stA; rw [hi]; exact ⟨v, hy, hh⟩
  ·have h1 := hh.2 j (ready_mono hj hji)
   obtain ⟨hjun, oj, hoj, hall⟩ := mem_ready.1 hj
   have hnot : ∀ e ∈ oj.after, Region.binds .any e = true → e.on ≠ i := fun e he hb heq => by
    have h1 := hall e he hb
    have h0 := (mem_ready.1 hr).1
    rw [heq] at h1
    rcases Nat.lt_or_ge i listed.size with h' | h'
    ·simp [h'] at h0 h1; rw [h0] at h1; cases h1
    ·simp [Array.getElem?_eq_none h'] at h1
   have h2 := stA_put ops hoj (hfree j oj hoj hji hjun hnot) hy h1
   have hfree' : ∀ k ok, ops[k]? = some ok → k ≠ i → (listed.setIfInBounds j true).getD k true = false →
     (∀ e ∈ ok.after, Region.binds .any e = true → e.on ≠ i) → kQ (zg P gl n ops oi) (zg P gl n ops ok) = true := fun k ok hk hki hun hno => by
    refine hfree k ok hk hki ?_ hno
    by_cases hjk : j = k
    ·subst hjk; exact hjun
    ·rw [getD_set_ne true hjk] at hun; exact hun
   refine stA_mono ops (fun fr' h3 => ih (listed.setIfInBounds j true) fr' hfree' (ready_mono hr (Ne.symm hji)) h3.1 ?_) h2
   rw [Array.setIfInBounds_comm _ _ hji]
   exact h3.2
theorem ib {listed : Array Bool} {k : Nat} {ok : Oper} (hk : ops[k]? = some ok) (h : oz P gl n ops listed k = true) : ∀ j oj, ops[j]? = some oj → j ≠ k → listed.getD j true = false → (∀ e ∈ oj.after, Region.binds .any e = true → e.on ≠ k) →
  kQ (zg P gl n ops ok) (zg P gl n ops oj) = true := by
 intro j oj hj hjk hun hno
 unfold oz at h
 have hlt : j < ops.size := (Array.getElem?_eq_some_iff.1 hj).1
 have := List.all_eq_true.1 h j (List.mem_range.2 hlt)
 rw [hj, hk] at this
 simp only [Option.map_some, Option.getD_some, Bool.or_eq_true, beq_iff_eq] at this
 rcases this with ((h1 | h1) | h1) | h1
 ·exact absurd h1 hjk
 ·rw [hun] at h1; cases h1
 ·rw [← Array.any_toList, List.any_eq_true] at h1
  obtain ⟨e, he, h2⟩ := h1
  simp only [Bool.and_eq_true, beq_iff_eq] at h2
  exact absurd h2.2 (hno e (by simpa using he) h2.1)
 ·exact h1
theorem iU {T : Tab} {H : zb} {Q : AFr → Prop} : ∀ (l : List Oper) (k : Nat) (listed : Array Bool) (fr : AFr), (∀ j : Nat, l[j]? = ops[k + j]?) → nS P gl n ops l.length k listed = true →
  pi T H Q (l.map (zg P gl n ops)) fr → anyA P gl n T H ops Q l.length listed fr
 | [], _, listed, fr, _, hB, h => ⟨by simpa [nS] using hB, h⟩
 | o :: l, k, listed, fr, hl, hB, h => by
  have h0 : ops[k]? = some o := by simpa using (hl 0).symm
  simp only [List.length_cons, nS, Bool.and_eq_true] at hB
  obtain ⟨⟨hr, hf⟩, hB'⟩ := hB
  simp only [List.map_cons, pi] at h
  cases hev : zK T (zg P gl n ops o) fr H with
  | none => rw [hev] at h; exact h.elim
  | some r =>
   obtain ⟨x, H'⟩ := r
   rw [hev] at h
   simp only at h
   obtain ⟨rfl, h2⟩ := h
   rw [uR] at h2
   exact anyA_first ops h0 l.length listed fr (ib ops h0 hf) (by simpa using hr) hev
    (iU l (k + 1) _ _ (fun j => by have := hl (j + 1); simpa [Nat.add_assoc, Nat.add_comm 1 j] using this) hB' h2)
end
end Go.Abs

namespace Go.Abs
variable {P : Program} {base : Prot}
theorem aw {T : Tab} {o : LOp} (hp : jn o = true) {fr : AFr} (H : zb) : zn T o fr H = (zn T o fr []).map fun p => (p.1, H) := by
 cases o <;> simp only [jn, Bool.false_eq_true] at hp <;> simp only [zn]
 all_goals first
  | rfl
  | (split <;> first | rfl | (split <;> first | rfl | (split <;> first | rfl | (split <;> rfl))))
theorem xu {T : Tab} {o : LOp} (hp : jn o = true) {fr : AFr} {H H' : zb} {x : AVal} (h : zn T o fr H = some (x, H')) : H' = H ∧ ∀ H2, zn T o fr H2 = some (x, H2) := by
 rw [aw hp H] at h
 cases h0 : zn T o fr [] with
 | none => rw [h0] at h; cases h
 | some p =>
  rw [h0] at h
  cases h
  exact ⟨rfl, fun H2 => by rw [aw hp H2, h0]; rfl⟩
theorem nN {T : Tab} {o : LOp} (hp : z9 o = true) {fr : AFr} {H H' : zb} {x : AVal} (h : zn T o fr H = some (x, H')) :
  H' = H ∧ ∀ H2 : zb, (∀ k ∈ jM fr o, H2[k]? = H[k]?) → zn T o fr H2 = some (x, H2) := by
 have key : ∀ H2 : zb, (∀ k ∈ jM fr o, H2[k]? = H[k]?) → zn T o fr H2 = (zn T o fr H).map fun p => (p.1, H2) := by
  intro H2 hk
  cases o <;> simp only [z9, Bool.false_eq_true] at hp <;> simp only [jM] at hk <;> simp only [zn]
  case load n ag a =>
   split
   ·rename_i k ver i off ha
    rw [ha] at hk
    rw [hk k (by simp [idxOf])]
    repeat' (first | rfl | split)
   ·repeat' (first | rfl | split)
   ·rfl
  case nilc a =>
   split
   ·rename_i k ver i off ha
    rw [ha] at hk
    rw [hk k (by simp [idxOf])]
    repeat' (first | rfl | split)
   all_goals rfl
  case fadr o a =>
   split
   ·rename_i k ver i off ha
    rw [ha] at hk
    rw [hk k (by simp [idxOf])]
    repeat' (first | rfl | split)
   ·repeat' (first | rfl | split)
   ·rfl
  case iadr s a i =>
   split
   ·split
    ·rename_i k off len ver ha
     rw [ha] at hk
     rw [hk k (by simp [idxOf])]
     repeat' (first | rfl | split)
    all_goals repeat' (first | rfl | split)
   ·rfl
  case iaadr l s a i =>
   split
   ·split
    ·rename_i k off len ver ha
     rw [ha] at hk
     rw [hk k (by simp [idxOf])]
     repeat' (first | rfl | split)
    all_goals repeat' (first | rfl | split)
   ·rfl
  case slSl s a lo hi mx =>
   split
   ·rename_i k off len ver ha
    rw [ha] at hk
    split
    all_goals
     rw [hk k (by simp [idxOf])]
     repeat' (first | rfl | split)
   all_goals repeat' (first | rfl | split)
  case mget ok z a k =>
   split
   ·rename_i j ver nn ha hk'
    rw [ha] at hk
    rw [hk j (by simp [idxOf])]
    repeat' (first | rfl | split)
   ·rfl
  case len a =>
   have : uE H2 (opd fr a) = uE H (opd fr a) := by
    cases ha : opd fr a with
    | own k off len ver =>
     rw [ha] at hk
     simp only [uE]
     rw [hk k (by simp [idxOf])]
    | p y => cases y <;> rfl
    | _ => rfl
   rw [this]
   split <;> rfl
 have h1 := key H (fun _ _ => rfl)
 rw [h] at h1
 have : H' = H := by simpa using h1
 subst this
 refine ⟨rfl, fun H2 hk => ?_⟩
 rw [key H2 hk, h]
 rfl
theorem tP {fr fr' : AFr} (o : LOp) (h : Agree (yQ o) fr fr') : jM fr o = jM fr' o := by
 cases o <;> simp only [jM] <;> simp only [yQ] at h
 case load n ag a => rw [zm h]
 case nilc x => rw [zm h]
 case fadr o x => rw [zm h]
 case iadr s x i => rw [zm h.left]
 case iaadr l s x i => rw [zm h.left]
 case len x => rw [zm h]
 case slSl s x lo hi mx => rw [zm h.left.left.left]
 case mget o z x k => rw [zm h.left]
theorem oO {fr fr' : AFr} (o : LOp) (h : Agree (yQ o) fr fr') : jv fr o = jv fr' o := by
 cases o <;> simp only [jv] <;> simp only [yQ] at h
 case app s b t x y => rw [zm h.left, zm h.right]
theorem pureV {T : Tab} {o : LOper} (hp : jn o.op = true) {fr : AFr} {H H' : zb} {x : AVal} (h : zK T o fr H = some (x, H')) : H' = H ∧ ∀ H2, zK T o fr H2 = some (x, H2) := by
 unfold zK at h ⊢
 cases hg : o.guard with
 | none => rw [hg] at h; exact xu hp h
 | some sw =>
  obtain ⟨s, want⟩ := sw
  rw [hg] at h
  simp only at h ⊢
  split at h
  ·rename_i b hb
   split at h
   ·rename_i hw; simp only [hw, if_true] at *; exact xu hp h
   ·rename_i hw; cases h; refine ⟨rfl, fun H2 => ?_⟩; simp [hw]
  ·rename_i hb; cases h; exact ⟨rfl, fun H2 => rfl⟩
  ·cases h
theorem pM {T : Tab} {o : LOper} (hp : z9 o.op = true) {fr : AFr} {H H' : zb} {x : AVal} (h : zK T o fr H = some (x, H')) :
  H' = H ∧ ∀ H2 : zb, (∀ k ∈ jM fr o.op, H2[k]? = H[k]?) → zK T o fr H2 = some (x, H2) := by
 unfold zK at h ⊢
 cases hg : o.guard with
 | none => rw [hg] at h; exact nN hp h
 | some sw =>
  obtain ⟨s, want⟩ := sw
  rw [hg] at h
  simp only at h ⊢
  split at h
  ·rename_i b hb
   split at h
   ·rename_i hw; simp only [hw, if_true] at *; exact nN hp h
   ·rename_i hw; cases h; refine ⟨rfl, fun H2 _ => ?_⟩; simp [hw]
  ·rename_i hb; cases h; exact ⟨rfl, fun H2 _ => rfl⟩
  ·cases h
theorem bE {W : List Nat} {N : Nat} {o : LOper} {fr fr' : AFr} {H H' : zb} (h : Agree (kp o) fr fr') (s : qD W N o fr H H') : qD W N o fr' H H' := by
 unfold qD at *
 unfold kp at h
 rw [tP o.op h.left] at s
 exact s
theorem jq {k : Nat} {op : LOp} {fr : AFr} {H H' : zb} {x : AVal} (h : newAt k op fr H = some (x, H')) :
  ∃ (val : Nat → AVal) (ent : Nat → Ent) (e : Ent), H[k]? = some e ∧ e.elems = [] ∧ x = val (e.ver + 1) ∧ H' = H.set k (ent (e.ver + 1)) ∧ ∀ (G : zb) (e' : Ent), G[k]? = some e' → e'.elems = [] → newAt k op fr G = some (val (e'.ver + 1), G.set k (ent (e'.ver + 1))) := by
 unfold newAt at h ⊢
 split at h
 case h_3 => cases h
 ·rename_i size ty lx
  split at h
  case isFalse => cases h
  rename_i hc
  split at h
  case h_2 => cases h
  rename_i e he
  split at h
  case isFalse => cases h
  rename_i hem
  cases h
  refine ⟨fun v => .optr k v 0 0, fun v => ⟨size, v, false, [opd fr lx], ty⟩, e, he, List.isEmpty_iff.1 hem, rfl, rfl, fun G e' h1 h2 => ?_⟩
  simp only [if_pos hc, h1, if_pos (List.isEmpty_iff.2 h2)]
 ·rename_i size ty z len parts
  split at h
  case isFalse => cases h
  rename_i hc
  split at h
  case h_2 => cases h
  rename_i es hf
  split at h
  case h_2 => cases h
  rename_i e he
  split at h
  case isFalse => cases h
  rename_i hem
  cases h
  refine ⟨fun v => .own k 0 len v, fun v => ⟨size, v, false, es, ty⟩, e, he, List.isEmpty_iff.1 hem, rfl, rfl, fun G e' h1 h2 => ?_⟩
  simp only [if_pos hc, hf, h1, if_pos (List.isEmpty_iff.2 h2)]
theorem iS {T : Tab} {o : LOper} (h : nr o = true) {fr : AFr} {H H' : zb} {x : AVal} (he : zK T o fr H = some (x, H')) :
  (∃ k e', k ∈ jv fr o.op ∧ H' = H.set k e' ∧ ∀ G : zb, G.length = H.length → (∀ q ∈ jv fr o.op, G[q]? = H[q]?) → zK T o fr G = some (x, G.set k e')) ∨
  (H' = H ∧ ∀ G : zb, G.length = H.length → (∀ q ∈ jv fr o.op, G[q]? = H[q]?) → zK T o fr G = some (x, G)) ∨
  (∃ ent, H' = H ++ [ent] ∧ ∀ G : zb, G.length = H.length → (∀ q ∈ jv fr o.op, G[q]? = H[q]?) → zK T o fr G = some (x, G ++ [ent])) := by
 unfold nr at h
 simp only [Bool.and_eq_true] at h
 obtain ⟨h1, h2⟩ := h
 have hg : o.guard = none := by simpa using h2
 unfold zK at he ⊢
 rw [hg] at he ⊢
 simp only at he ⊢
 generalize o.op = op at h1 he
 cases op <;> first | (simp at h1; done) | skip
 rename_i size bytes ty lx ly
 simp only [zn, jv] at he ⊢
 have hsl : ∀ G : zb, (∀ q ∈ idxOf (opd fr lx) ++ idxOf (opd fr ly), G[q]? = H[q]?) → jO G (opd fr ly) = jO H (opd fr ly) := by
  intro G hq
  generalize hy : opd fr ly = y at hq ⊢
  cases y with
  | own k off len ver =>
   have := hq k (by simp [idxOf])
   simp only [jO, jX, this]
  | p y => cases y <;> rfl
  | _ => rfl
 cases hs : jO H (opd fr ly) with
 | none => rw [hs] at he; cases he
 | some ys =>
  rw [hs] at he
  simp only at he
  unfold qC at he
  split at he
  case isFalse => cases he
  rename_i hc
  split at he
  ·rename_i k off len ver hx
   split at he
   case h_2 => cases he
   rename_i e hk
   have hkm : k ∈ idxOf (opd fr lx) ++ idxOf (opd fr ly) := by rw [hx]; simp [idxOf]
   split at he
   ·rename_i h3
    cases he
    refine .inl ⟨k, _, hkm, rfl, fun G hG hq => ?_⟩
    rw [hsl G hq, hs]
    simp only [qC, if_pos hc, hx, hq k hkm, hk, if_pos h3]
   ·rename_i h3
    split at he
    ·rename_i h4
     cases he
     refine .inl ⟨k, _, hkm, rfl, fun G hG hq => ?_⟩
     rw [hsl G hq, hs]
     simp only [qC, if_pos hc, hx, hq k hkm, hk, if_neg h3, if_pos h4]
    ·rename_i h4
     split at he
     ·rename_i h5
      cases he
      refine .inr (.inl ⟨rfl, fun G hG hq => ?_⟩)
      rw [hsl G hq, hs]
      simp only [qC, if_pos hc, hx, hq k hkm, hk, if_neg h3, if_neg h4, if_pos h5]
     ·cases he
  ·rename_i es hx
   split at he
   case isFalse => cases he
   rename_i h3
   cases he
   refine .inr (.inr ⟨_, rfl, fun G hG hq => ?_⟩)
   rw [hsl G hq, hs]
   simp only [qC, if_pos hc, hx, if_pos h3, hG]
  ·cases he
theorem kz {o : LOper} (h : nr o = true) : jn o.op = false ∧ z9 o.op = false ∧ wW o.op = false ∧ qp o = false := by
 unfold nr at h
 unfold qp
 generalize o.op = op at h
 cases op <;> first | (simp at h; done) | exact ⟨rfl, rfl, rfl, rfl⟩
theorem pf {T : Tab} {N : Nat} {fl : Fl} {o : LOper} {fr fr' : AFr} (h : Agree (kp o) fr fr') (H : zb) : jd T N fl o fr H = jd T N fl o fr' H := by
 cases fl with
 | f => exact wj o h
 | s => exact wj o h
 | t => exact wj o h
 | c R => exact wj o h
 | a rs => exact wj o h
 | n r =>
  show newAt _ _ _ _ = newAt _ _ _ _
  unfold newAt
  unfold kp at h
  cases ho : o.op <;> try rfl
  ·rename_i size ty lx
   rw [ho] at h
   have : opd fr lx = opd fr' lx := zm h.left
   simp only [this]
  ·rename_i size ty z len parts
   rw [ho] at h
   simp only
   rw [cd parts _ h.left]
theorem wR {T : Tab} {W : List Nat} {N : Nat} {fl : Fl} {o : LOper} {fr fr' : AFr} {H H' : zb} {x : AVal} (h : Agree (kp o) fr fr') (s : wM T W N fl o fr H x H') : wM T W N fl o fr' H x H' := by
 cases fl with
 | f => exact trivial
 | s => exact bE h s
 | t => exact fun G => by rw [← wj o h]; exact s G
 | c R => exact ⟨s.1, bE h s.2.1, fun M hM => by rw [← wj o h]; exact s.2.2 M hM⟩
 | n r => exact trivial
 | a rs => exact ⟨bE h s.1, fun r hr => by
   have := s.2 r hr
   unfold kp at h
   rwa [oO o.op h.left] at this⟩
section
variable {gl : Nat → AVal} {n : Nat} {b : Bool} (ops : Array Oper)
theorem flag_n {i : Nat} {r : Nat} (h : zv P gl n b ops i = .n r) : b = true ∧ zT P gl n ops i = true ∧ r = zt P gl n ops i := by
 unfold zv at h
 split at h
 ·rename_i hc
  simp only [Bool.and_eq_true] at hc
  cases h
  exact ⟨hc.1, hc.2, rfl⟩
 ·repeat' split at h
  all_goals cases h
theorem sX {i : Nat} {rs : List Nat} (h : zv P gl n b ops i = .a rs) : b = true ∧ yy P gl n ops i = true ∧ rs = q8 P gl n ops i := by
 unfold zv at h
 split at h
 ·cases h
 ·split at h
  ·rename_i hc
   simp only [Bool.and_eq_true] at hc
   cases h
   exact ⟨hc.1.1, hc.1.2, rfl⟩
  ·repeat' split at h
   all_goals cases h
theorem sW {i : Nat} {R : Nat} (h : zv P gl n b ops i = .c R) : b = true ∧ R = zt P gl n ops ops.size ∧ ∃ o, ops[i]? = some o ∧ wW (zg P gl n ops o).op = true := by
 unfold zv at h
 split at h
 ·cases h
 split at h
 ·cases h
 ·split at h
  ·cases h
  ·split at h
   ·rename_i hc
    simp only [Bool.and_eq_true] at hc
    cases h
    refine ⟨hc.1, rfl, ?_⟩
    have h1 := hc.2
    unfold uz at h1
    obtain ⟨j, _, hj⟩ := List.any_eq_true.1 h1
    simp only [Bool.and_eq_true] at hj
    cases hi : ops[i]? with
    | none => rw [hi] at hj; simp at hj
    | some o =>
     cases hjj : ops[j]? with
     | none => rw [hi, hjj] at hj; simp at hj
     | some oj =>
      rw [hi, hjj] at hj
      simp only [Bool.and_eq_true] at hj
      exact ⟨o, rfl, hj.2.1.1.1⟩
   ·split at h <;> cases h
theorem cj {o : LOper} (h : wW o.op = true) : jn o.op = false ∧ z9 o.op = false ∧ nr o = false ∧ qp o = false := by
 unfold nr qp
 generalize o.op = op at h
 cases op <;> first | (simp [wW] at h; done) | exact ⟨rfl, rfl, rfl, rfl⟩
theorem sG {N R : Nat} {H : zb} (h : N + R ≤ H.length) : jt N R H ((H.drop N).take R) = H := by
 unfold jt
 have e : H.drop (N + R) = (H.drop N).drop R := by rw [List.drop_drop]
 rw [e, List.append_assoc, List.take_append_drop, List.take_append_drop]
theorem mid_len {N R : Nat} {H M : zb} (h : N + R ≤ H.length) (hM : M.length = R) : (jt N R H M).length = H.length := by
 unfold jt
 simp [hM]
 omega
theorem pQ {N R : Nat} {H M M' : zb} (h : N + R ≤ H.length) (hM : M.length = R) : jt N R (jt N R H M) M' = jt N R H M' := by
 have hN : (H.take N).length = N := by simp; omega
 unfold jt
 congr 1
 ·congr 1
  rw [List.append_assoc, List.take_append_of_le_length (by omega), List.take_of_length_le (by omega)]
 ·rw [List.drop_append, List.drop_of_length_le (by simp; omega)]
  simp [hN, hM]
theorem pR {N R r : Nat} {H M : zb} (h : N + R ≤ H.length) (hM : M.length = R) (hr : r < R) : (jt N R H M)[N + r]? = M[r]? := by
 have hN : (H.take N).length = N := by simp; omega
 unfold jt
 rw [List.append_assoc, List.getElem?_append_right (by omega), hN, List.getElem?_append_left (by omega)]
 congr 1
 omega
theorem pP {N R r : Nat} {H M : zb} {e : Ent} (h : N + R ≤ H.length) (hM : M.length = R) (hr : r < R) : (jt N R H M).set (N + r) e = jt N R H (M.set r e) := by
 have hN : (H.take N).length = N := by simp; omega
 unfold jt
 rw [List.append_assoc, List.append_assoc, List.set_append_right _ _ (by omega), hN, List.set_append_left _ _ (by omega)]
 congr 3
 omega
theorem mid_of {N R : Nat} {H : zb} (h : N + R ≤ H.length) : ((H.drop N).take R).length = R := by simp; omega
theorem pN {i j : Nat} (hij : i < j) (h : zT P gl n ops i = true) : zt P gl n ops i < zt P gl n ops j := by
 unfold zt
 have e : List.range j = List.range i ++ (List.range (j - i)).map (i + ·) := by
  have := List.range_add (n := i) (m := j - i)
  rw [show i + (j - i) = j by omega] at this
  exact this
 rw [e, List.countP_append]
 have hm : 0 < ((List.range (j - i)).map (i + ·)).countP (zT P gl n ops) := List.countP_pos_iff.2 ⟨i, List.mem_map.2 ⟨0, List.mem_range.2 (by omega), by simp⟩, h⟩
 omega
theorem rank_ne {i j : Nat} (hij : i ≠ j) (hi : zT P gl n ops i = true) (hj : zT P gl n ops j = true) : zt P gl n ops i ≠ zt P gl n ops j := by
 rcases Nat.lt_or_gt_of_ne hij with h | h
 ·exact Nat.ne_of_lt (pN ops h hi)
 ·exact Nat.ne_of_gt (pN ops h hj)
theorem qo {T : Tab} {N : Nat} {fl : Fl} {o : LOper} {fr : AFr} {H : zb} (h : ∀ r, fl ≠ .n r) : jd T N fl o fr H = zK T o fr H := by
 cases fl with
 | n r => exact absurd rfl (h r)
 | _ => rfl
def stB (P : Program) (gl : Nat → AVal) (n : Nat) (b : Bool) (T : Tab) (W : List Nat) (N : Nat) (ops : Array Oper) (i : Nat) (K : AFr → zb → Prop) (fr : AFr) (H : zb) : Prop :=
 match ops[i]? with
 | none => K fr H
 | some o => ∃ x H', jd T N (zv P gl n b ops i) (zg P gl n ops o) fr H = some (x, H') ∧ wM T W N (zv P gl n b ops i) (zg P gl n ops o) fr H x H' ∧ K (put fr o.dst x) H'
def anyB (P : Program) (gl : Nat → AVal) (n : Nat) (b : Bool) (T : Tab) (W : List Nat) (N : Nat) (ops : Array Oper) (Q : AFr → zb → Prop) : Nat → Array Bool → AFr → zb → Prop
 | 0, listed, fr, H => Region.ready .any ops listed = [] ∧ Q fr H
 | m + 1, listed, fr, H => (Region.ready .any ops listed = [] → Q fr H) ∧ ∀ i ∈ Region.ready .any ops listed, stB P gl n b T W N ops i (anyB P gl n b T W N ops Q m (listed.setIfInBounds i true)) fr H
theorem stB_mono {T : Tab} {W : List Nat} {N : Nat} {i : Nat} {K K' : AFr → zb → Prop} (h : ∀ fr H, K fr H → K' fr H) {fr : AFr} {H : zb} (hh : stB P gl n b T W N ops i K fr H) : stB P gl n b T W N ops i K' fr H := by
 unfold stB at *
 split
 ·rename_i ho; rw [ho] at hh; exact h _ _ hh
 ·rename_i o ho; rw [ho] at hh; obtain ⟨x, H', h1, hs, h2⟩ := hh; exact ⟨x, H', h1, hs, h _ _ h2⟩
theorem Inv.putNew {c : Ctx} {H : zb} {w : World} (hI : Inv base c H w) {k : Nat} {e0 : Ent} (hk : H[k]? = some e0) {x : AVal} {v : Value} (r : Rep c x v) {size : Nat} (hlen : x.cells.length = size) (hpos : 0 < size) (hkc : x.cells.all AVal.isCell = true) (ty : TypeId) :
  ∃ c', Step c w c' (w.alloc (.cells v.cells ty)) ∧ Inv base c' (H.set k ⟨size, e0.ver + 1, false, [x], ty⟩) (w.alloc (.cells v.cells ty)) ∧ Rep c' (.optr k (e0.ver + 1) 0 0) (.pointer (some ⟨w.heap.size, 0, none⟩)) := by
 have hg2 := (Grew.refl w).alloc (.cells v.cells ty)
 have hc := r.cells (zS hkc)
 have hsize : v.cells.size = size := by have := hc.1.1; simp at this; omega
 have hkl : k < H.length := (List.getElem?_eq_some_iff.1 hk).1
 have hkc' : k < c.locs.length := by rw [hI.len]; exact hkl
 obtain ⟨l0, hl0, hver0⟩ : ∃ l, c.locs[k]? = some l ∧ l.ver = e0.ver := ⟨_, List.getElem?_eq_getElem hkc', (hI.ent k e0 _ hk (List.getElem?_eq_getElem hkc')).ver⟩
 have hnew : (w.alloc (.cells v.cells ty)).heap[w.heap.size]? = some (.cells v.cells ty (0, 0)) := heap_alloc_new _ _
 have hs : Step c w ⟨c.locs.set k ⟨e0.ver + 1, size, some (w.heap.size, 1), false⟩, c.prot⟩ (w.alloc (.cells v.cells ty)) := by
  refine ⟨fun _ _ _ h => h, fun j l h => ?_, hg2.os, hg2.tape, hg2.output, hg2.size, fun b hb _ => hg2.blk b hb, fun b hb => ?_, fun _ _ _ h => .inl h⟩
  ·by_cases hj : k = j
   ·subst hj
    rw [hl0] at h; cases h
    exact ⟨⟨e0.ver + 1, size, some (w.heap.size, 1), false⟩, by simp [hkc'], by simp [hver0], fun e => absurd e (by simp [hver0])⟩
   ·exact ⟨l, by rw [List.getElem?_set_ne hj]; exact h, Nat.le_refl _, fun _ => rfl⟩
  ·obtain ⟨j, l, cp, h1, h2⟩ := hb
   by_cases hj : k = j
   ·subst hj
    simp [hkc'] at h1
    subst h1
    simp at h2
    right; omega
   ·simp only [List.getElem?_set_ne hj] at h1
    exact .inl ⟨j, l, cp, h1, h2⟩
 refine ⟨_, hs, ⟨hI.base, by simp [hI.len], fun b o u hv => ?_, fun j e l h1 h2 => ?_, fun j j' l l' g cp cp' h1 h2 h3 h4 => ?_⟩, ?_⟩
 ·rw [cell_of_heap (hg2.blk b (hI.prot_lt hv))]; exact hI.prot b o u hv
 ·by_cases hj : k = j
  ·subst hj
   simp [hkl] at h1
   simp [hkc'] at h2
   subst h1; subst h2
   refine ⟨rfl, rfl, nP hpos, fun _ y hy => by simp at hy; subst hy; exact ⟨hlen, zS hkc⟩, by simp, fun g cp cur' ty' fr' hl hh => ?_, (fun _ _ _ hm => by cases hm), fun g cp hl _ => ?_⟩
   ·simp at hl
    obtain ⟨rfl, rfl⟩ := hl
    rw [hnew] at hh
    cases hh; rfl
   ·simp at hl
    obtain ⟨rfl, rfl⟩ := hl
    refine ⟨v.cells, ty, hnew, by simp [hsize], by unfold maxLen; omega, by simp, fun i y j z a b => ?_, fun o u ho => ?_⟩
    ·cases i with
     | zero =>
      simp at a; subst a
      have hjl : j < v.cells.toList.length := by rw [hc.1.1]; exact (List.getElem?_eq_some_iff.1 b).1
      exact ⟨v.cells.toList[j], by simp at hjl; simp [hjl], (hc.1.2 j z _ b (by simp)).step hs⟩
     | succ i => simp at a
    ·have := hI.prot_lt ho; omega
  ·rw [List.getElem?_set_ne hj] at h1
   simp only [List.getElem?_set_ne hj] at h2
   exact (hI.ent j e l h1 h2).keep hs (fun g cap hl => hg2.blk g (hI.loced_lt ⟨j, l, cap, h2, hl⟩)) (fun _ _ _ _ _ h => h)
 ·have lt : ∀ {j : Nat} {l : Loc} {g cp : Nat}, (c.locs.set k ⟨e0.ver + 1, size, some (w.heap.size, 1), false⟩)[j]? = some l → l.place = some (g, cp) → (j ≠ k ∧ c.locs[j]? = some l ∧ g < w.heap.size) ∨ (j = k ∧ g = w.heap.size) := by
   intro j l g cp a b
   by_cases hj : k = j
   ·subst hj
    simp [hkc'] at a; subst a; simp at b
    exact .inr ⟨rfl, b.1.symm⟩
   ·rw [List.getElem?_set_ne hj] at a
    exact .inl ⟨Ne.symm hj, a, hI.loced_lt ⟨j, l, cp, a, b⟩⟩
  rcases lt h1 h3 with ⟨a1, a2, a3⟩ | ⟨a1, a2⟩ <;> rcases lt h2 h4 with ⟨b1, b2, b3⟩ | ⟨b1, b2⟩
  ·exact hI.inj j j' l l' g cp cp' a2 b2 h3 h4
  ·omega
  ·omega
  ·omega
 ·exact .optr _ _ 0 0 ⟨e0.ver + 1, size, some (w.heap.size, 1), false⟩ _ (by simp [hkc']) (Nat.le_refl _) (fun _ => ⟨rfl, w.heap.size, 1, rfl, by simp⟩) ⟨_, rfl⟩
theorem box_at {c : Ctx} {H : zb} {w : World} (hI : Inv base c H w) {k : Nat} {e0 : Ent} (hk : H[k]? = some e0) {fr : AFr} {t : TypeId} {size : Nat} {lx : LOpd} {vx : Value} (rx : Rep c (opd fr lx) vx)
  (hc : (opd fr lx).cells.length = size ∧ 0 < size ∧ (opd fr lx).cells.all AVal.isCell = true) : Done P base (Instr.box t vx) c w (.optr k (e0.ver + 1) 0 0) (H.set k ⟨size, e0.ver + 1, false, [opd fr lx], t⟩) := by
 obtain ⟨c', a, b, d⟩ := hI.putNew hk rx hc.1 hc.2.1 hc.2.2 t
 exact ⟨_, _, c', by simp [Instr.box, newVar, newRow, newObj]; rfl, a, b, d⟩
theorem Inv.putAlloc {c : Ctx} {H : zb} {w w1 : World} (hI : Inv base c H w) {k : Nat} {e0 : Ent} (hk : H[k]? = some e0) (hg : Grew w w1) (hsz : w1.heap.size = w.heap.size) (size cap : Nat) (elems : List AVal) (cur : Array Value) (ty : TypeId)
  (hpos : 0 < size) (hc : cur.size = cap * size) (hm : cap ≤ maxLen) (hle : elems.length ≤ cap) (hcells : ∀ x ∈ elems, x.cells.length = size ∧ ∀ y ∈ x.cells, y.isCell = true)
  (hrep : ∀ (i : Nat) x (j : Nat) y, elems[i]? = some x → x.cells[j]? = some y → ∃ v, cur[i * size + j]? = some v ∧ Rep c y v) :
  Step c w ⟨c.locs.set k ⟨e0.ver + 1, size, some (w.heap.size, cap), false⟩, c.prot⟩ (w1.alloc (.cells cur ty)) ∧
  Inv base ⟨c.locs.set k ⟨e0.ver + 1, size, some (w.heap.size, cap), false⟩, c.prot⟩ (H.set k ⟨size, e0.ver + 1, false, elems, ty⟩) (w1.alloc (.cells cur ty)) := by
 have hg2 := hg.alloc (.cells cur ty)
 have hkl : k < H.length := (List.getElem?_eq_some_iff.1 hk).1
 have hkc' : k < c.locs.length := by rw [hI.len]; exact hkl
 obtain ⟨l0, hl0, hver0⟩ : ∃ l, c.locs[k]? = some l ∧ l.ver = e0.ver := ⟨_, List.getElem?_eq_getElem hkc', (hI.ent k e0 _ hk (List.getElem?_eq_getElem hkc')).ver⟩
 have hnew : (w1.alloc (.cells cur ty)).heap[w.heap.size]? = some (.cells cur ty (0, 0)) := by rw [← hsz]; exact heap_alloc_new _ _
 have hs : Step c w ⟨c.locs.set k ⟨e0.ver + 1, size, some (w.heap.size, cap), false⟩, c.prot⟩ (w1.alloc (.cells cur ty)) := by
  refine ⟨fun _ _ _ h => h, fun j l h => ?_, hg2.os, hg2.tape, hg2.output, hg2.size, fun b hb _ => hg2.blk b hb, fun b hb => ?_, fun _ _ _ h => .inl h⟩
  ·by_cases hj : k = j
   ·subst hj
    rw [hl0] at h; cases h
    exact ⟨⟨e0.ver + 1, size, some (w.heap.size, cap), false⟩, by simp [hkc'], by simp [hver0], fun e => absurd e (by simp [hver0])⟩
   ·exact ⟨l, by rw [List.getElem?_set_ne hj]; exact h, Nat.le_refl _, fun _ => rfl⟩
  ·obtain ⟨j, l, cp, h1, h2⟩ := hb
   by_cases hj : k = j
   ·subst hj
    simp [hkc'] at h1
    subst h1
    simp at h2
    right; omega
   ·simp only [List.getElem?_set_ne hj] at h1
    exact .inl ⟨j, l, cp, h1, h2⟩
 refine ⟨hs, hI.base, by simp [hI.len], fun b o u hv => ?_, fun j e l h1 h2 => ?_, fun j j' l l' g cp cp' h1 h2 h3 h4 => ?_⟩
 ·rw [cell_of_heap (hg2.blk b (hI.prot_lt hv))]; exact hI.prot b o u hv
 ·by_cases hj : k = j
  ·subst hj
   simp [hkl] at h1
   simp [hkc'] at h2
   subst h1; subst h2
   refine ⟨rfl, rfl, nP hpos, fun _ => hcells, by simp, fun g cp cur' ty' fr' hl hh => ?_, (fun _ _ _ hm => by cases hm), fun g cp hl _ => ?_⟩
   ·simp at hl
    obtain ⟨rfl, rfl⟩ := hl
    rw [hnew] at hh
    cases hh; rfl
   ·simp at hl
    obtain ⟨rfl, rfl⟩ := hl
    refine ⟨cur, ty, hnew, hc, hm, hle, fun i y j z a b => ?_, fun o u ho => ?_⟩
    ·obtain ⟨v, p, q⟩ := hrep i y j z a b
     exact ⟨v, p, q.step hs⟩
    ·have := hI.prot_lt ho; omega
  ·rw [List.getElem?_set_ne hj] at h1
   simp only [List.getElem?_set_ne hj] at h2
   exact (hI.ent j e l h1 h2).keep hs (fun g cap hl => hg2.blk g (hI.loced_lt ⟨j, l, cap, h2, hl⟩)) (fun _ _ _ _ _ h => h)
 ·have lt : ∀ {j : Nat} {l : Loc} {g cp : Nat}, (c.locs.set k ⟨e0.ver + 1, size, some (w.heap.size, cap), false⟩)[j]? = some l → l.place = some (g, cp) → (j ≠ k ∧ c.locs[j]? = some l ∧ g < w.heap.size) ∨ (j = k ∧ g = w.heap.size) := by
   intro j l g cp a b
   by_cases hj : k = j
   ·subst hj
    simp [hkc'] at a; subst a; simp at b
    exact .inr ⟨rfl, b.1.symm⟩
   ·rw [List.getElem?_set_ne hj] at a
    exact .inl ⟨Ne.symm hj, a, hI.loced_lt ⟨j, l, cp, a, b⟩⟩
  rcases lt h1 h3 with ⟨a1, a2, a3⟩ | ⟨a1, a2⟩ <;> rcases lt h2 h4 with ⟨b1, b2, b3⟩ | ⟨b1, b2⟩
  ·exact hI.inj j j' l l' g cp cp' a2 b2 h3 h4
  ·omega
  ·omega
  ·omega
theorem buildSl_at {c : Ctx} {H : zb} {w : World} (hI : Inv base c H w) {k : Nat} {e0 : Ent} (hk : H[k]? = some e0) {fr : AFr} {t e : TypeId} (ht : P.underlying t = some (.slice e)) {len : Nat} {parts : List (Nat × LOpd)} {mparts : List (Nat × Value)} (hl : mparts.length = parts.length)
  (hp : ∀ (j : Nat) p q, parts[j]? = some p → mparts[j]? = some q → q.1 = p.1 ∧ Rep c (opd fr p.2) q.2)
  (hcond : (qb P e).cells.length = zh P e ∧ 0 < zh P e ∧ len * zh P e ≤ 16777216 ∧ (qb P e).cells.all AVal.isCell = true) {es : List AVal} (hf : zN (opd fr) (zh P e) (List.replicate len (qb P e)) parts = some es) :
  Done P base (Instr.buildSlice t len mparts.toArray) c w (.own k 0 len (e0.ver + 1)) (H.set k ⟨zh P e, e0.ver + 1, false, es, e⟩) := by
 obtain ⟨hzl, hpos, hsmall, hzk⟩ := hcond
 obtain ⟨i, z, hi, hz, hze⟩ := yc hzk
 obtain ⟨d, hd⟩ := qv (P := P) (t := e) (by omega)
 have hsz : zh P e = i.size := by simp [zh, hd, hi]
 rw [hze] at hzl hzk hf
 have rz := (vq c z).cells (zS hzk)
 have hzs : z.cells.size = zh P e := by have := rz.1.1; simp at this; omega
 have zrep : ∀ (i' : Nat) y (j : Nat) u, (List.replicate len (kP z))[i']? = some y → y.cells[j]? = some u → ∃ v, (madeCells z.cells (len * zh P e)).toList[i' * zh P e + j]? = some v ∧ Rep c u v := by
  intro i' y j u hy hu
  rw [List.getElem?_replicate] at hy
  split at hy
  case isFalse => cases hy
  rename_i hi'
  cases hy
  have hj : j < zh P e := by rw [← hzl]; exact (List.getElem?_eq_some_iff.1 hu).1
  refine ⟨z.cells[j], ?_, rz.1.2 j u _ hu (by simp [hzs, hj])⟩
  have := gP _ _ _ _ _ hzs hj hi'
  simpa using this
 obtain ⟨vs', g1, g2, g3, g4, g5⟩ := sY parts mparts _ (madeCells z.cells (len * zh P e)).toList es (by simp [size_madeCells]) (fun y hy => by
  rw [(List.mem_replicate.1 hy).2]; exact ⟨hzl, zS hzk⟩) zrep hl hp hf
 simp only [List.length_replicate] at g3
 obtain ⟨hs, hI'⟩ := hI.putAlloc hk (.refl w) rfl (zh P e) len es vs'.toArray e hpos (by simp [g2, g3]) (by unfold maxLen; have := Nat.le_mul_of_pos_right len hpos; omega) (by omega) g4 (fun i x j y a b => by
  obtain ⟨v, p, q⟩ := g5 i x j y a b
  exact ⟨v, by simpa using p, q⟩)
 have hrun : (Instr.buildSlice t len mparts.toArray).run P w = .ok (.slice (some ⟨w.heap.size, 0, none⟩) len len) (w.alloc (.cells vs'.toArray e)) := by
  have g1' : Instr.fill (fun i => some (i * zh P e, zh P e)) (madeCells z.cells (len * zh P e)) mparts = some vs'.toArray := by simpa using g1
  rw [hsz] at g1'
  by_cases h0 : len * i.size = 0
  ·have hlen0 : len = 0 := by
    rcases Nat.mul_eq_zero.1 h0 with h | h
    ·exact h
    ·omega
   subst hlen0
   have e0 : madeCells z.cells (0 * i.size) = #[] := by apply Array.eq_empty_of_size_eq_zero; rw [size_madeCells]; simp
   rw [e0] at g1'
   simp [Instr.buildSlice, run_underlying ht, sizeOf, typeInfo, hi, newRow, newObj]
   rw [show Array.map (fun _ => (default : Value)) (Array.range 0) = #[] from Array.eq_empty_of_size_eq_zero (by simp), g1']
   rfl
  ·exact run_buildSlice w t e len mparts.toArray vs'.toArray i z ht hi hz (by rw [← hsz]; omega) h0 g1'
 have hkc : k < c.locs.length := by rw [hI.len]; exact (List.getElem?_eq_some_iff.1 hk).1
 refine ⟨_, _, _, hrun, hs, hI', ?_⟩
 refine .own _ _ _ _ ⟨e0.ver + 1, zh P e, some (w.heap.size, len), false⟩ _ (by simp [hkc]) (Nat.le_refl _) (fun _ => ?_) ⟨_, _, _, rfl⟩
 exact ⟨rfl, _, _, rfl, Nat.le_refl _, by unfold maxLen; have := Nat.le_mul_of_pos_right len hpos; omega, by omega, fun _ => by simp⟩
theorem lowB1_nb (bu : Builtin) (at' : Array TypeId) (x : Operand) {size : Nat} {ty : TypeId} {z : AVal} {len : Nat} {ps : List (Nat × LOpd)} : jD P gl n bu at' x ≠ .buildSl size ty z len ps := by
 unfold jD
 repeat' split
 all_goals (intro h; cases h)
theorem lowB2_nb (bu : Builtin) (at' : Array TypeId) (x y : Operand) {size : Nat} {ty : TypeId} {z : AVal} {len : Nat} {ps : List (Nat × LOpd)} : jC P gl n bu at' x y ≠ .buildSl size ty z len ps := by
 unfold jC
 repeat' split
 all_goals (intro h; cases h)
theorem lowB3_nb (bu : Builtin) (x y z' : Operand) {size : Nat} {ty : TypeId} {z : AVal} {len : Nat} {ps : List (Nat × LOpd)} : jB gl n bu x y z' ≠ .buildSl size ty z len ps := by
 unfold jB
 split
 all_goals (intro h; cases h)
theorem lowB_nb (bu : Builtin) (at' : Array TypeId) (l : List Operand) {size : Nat} {ty : TypeId} {z : AVal} {len : Nat} {ps : List (Nat × LOpd)} : kq P gl n bu at' l ≠ .buildSl size ty z len ps := by
 unfold kq
 split
 ·exact lowB1_nb _ _ _
 ·exact lowB2_nb _ _ _ _
 ·exact lowB3_nb _ _ _ _
 ·intro h; cases h
theorem lowB1_ne (bu : Builtin) (at' : Array TypeId) (x : Operand) {size : Nat} {ty : TypeId} {lx : LOpd} : jD P gl n bu at' x ≠ .newv size ty lx := by
 unfold jD
 repeat' split
 all_goals (intro h; cases h)
theorem lowB2_ne (bu : Builtin) (at' : Array TypeId) (x y : Operand) {size : Nat} {ty : TypeId} {lx : LOpd} : jC P gl n bu at' x y ≠ .newv size ty lx := by
 unfold jC
 repeat' split
 all_goals (intro h; cases h)
theorem lowB3_ne (bu : Builtin) (x y z : Operand) {size : Nat} {ty : TypeId} {lx : LOpd} : jB gl n bu x y z ≠ .newv size ty lx := by
 unfold jB
 split
 all_goals (intro h; cases h)
theorem lowB_ne (bu : Builtin) (at' : Array TypeId) (l : List Operand) {size : Nat} {ty : TypeId} {lx : LOpd} : kq P gl n bu at' l ≠ .newv size ty lx := by
 unfold kq
 split
 ·exact lowB1_ne _ _ _
 ·exact lowB2_ne _ _ _ _
 ·exact lowB3_ne _ _ _ _
 ·intro h; cases h
theorem oper_new {hg : qK base gl} (ops : Array Oper) {k : Nat} {o : Oper} (h0 : ops[k]? = some o) {c : Ctx} {H : zb} {w : World} (hI : Inv base c H w) {fr : AFr} {a : Act} (hs : Sim n c fr a) {x : AVal} {H1 : zb} {at' : Nat}
  (hfr : qp (zg P gl n ops o) = true) (hev : newAt at' (zg P gl n ops o).op fr H = some (x, H1)) (K : Act → World → Prop) (Q : Exit → Act → World → Prop) (hK : ∀ v c' w', Step c w c' w' → Inv base c' H1 w' → Rep c' x v → K (a.put o.dst v) w') : wpOp P ops Q k K a w := by
 have hgd : o.guard = none := by
  cases hgd : o.guard with
  | none => rfl
  | some jw =>
   exfalso
   unfold qp at hfr
   simp only [Bool.and_eq_true] at hfr
   have h2 := hfr.2
   have h1 := hfr.1
   unfold zg at h2 h1
   obtain ⟨j, want⟩ := jw
   simp only [hgd, bV] at h2 h1
   cases hdst : (ops[j]?.bind fun x => x.dst) with
   | none => simp [hdst] at h1
   | some s => by_cases hs' : s < n <;> simp [hdst, hs'] at h2 h1
 have hlow : (zg P gl n ops o).op = bU P gl n o.op := by
  unfold zg
  simp only [hgd, bV]
 rw [hlow] at hev
 have R := sx hg hs hI.base
 have run : After P base o a c w x H1 := by
  unfold newAt at hev
  split at hev
  case h_3 => cases hev
  ·rename_i size ty lx hop
   split at hev
   case isFalse => cases hev
   rename_i hc
   split at hev
   case h_2 => cases hev
   rename_i e he
   split at hev
   case isFalse => cases hev
   cases hev
   obtain ⟨dst, op, ty', pos, after, guard⟩ := o
   cases op <;> simp only [bU] at hop <;> try (first | (cases hop; done) | (split at hop <;> cases hop; done))
   case alloc t =>
    cases hop
    unfold qb at hc ⊢
    cases hi : P.info? ty with
    | none => simp [hi, opd, AVal.cells, AVal.isCell] at hc
    | some i =>
     cases hz : i.zero with
     | none => simp [hi, hz, opd, AVal.cells, AVal.isCell] at hc
     | some z =>
      simp only [hi, hz] at hc ⊢
      obtain ⟨v, w', c', a', b'⟩ := box_at (P := P) (fr := fr) (t := ty) (vx := z) (lx := .cst (kP z)) hI he (vq c z) hc
      refine .of_done rfl ⟨v, w', c', ?_, b'⟩
      rw [← a']
      simp [Instr.alloc, Instr.box, zeroValue, typeInfo, hi, hz, Sem.run_bind]
   case box t y =>
    cases hop
    exact .of_done rfl (box_at hI he (R y) hc)
   all_goals (repeat' (split at hop))
   all_goals first | (cases hop; done) | exact absurd hop (lowB_ne _ _ _)
  ·rename_i size ty z len parts hop
   split at hev
   case isFalse => cases hev
   rename_i hc
   split at hev
   case h_2 => cases hev
   rename_i es hf
   split at hev
   case h_2 => cases hev
   rename_i e he
   split at hev
   case isFalse => cases hev
   cases hev
   obtain ⟨dst, op, ty', pos, after, guard⟩ := o
   cases op <;> simp only [bU] at hop <;> try (first | (cases hop; done) | (split at hop <;> cases hop; done))
   case buildSlice t len' parts' =>
    split at hop
    ·rename_i e' hu
     cases hop
     have hd := buildSl_at (P := P) (base := base) (fr := fr) hI he hu (parts := parts'.toList.map fun (i, x) => (i, zY gl n x)) (mparts := parts'.toList.map fun (i, x) => (i, a.eval x)) (by simp) (fun j p q h1 h2 => by
        simp only [List.getElem?_map] at h1 h2
        cases hj : parts'.toList[j]? with
        | none => rw [hj] at h1; cases h1
        | some ix =>
         obtain ⟨i, y⟩ := ix
         rw [hj] at h1 h2
         simp only [Option.map_some, Option.some.injEq] at h1 h2
         subst h2; subst h1
         exact ⟨rfl, R y⟩) hc hf
     refine .of_done ?_ hd
     simp [execOp]
     rw [ud]
    ·cases hop
   all_goals (repeat' (split at hop))
   all_goals first | (cases hop; done) | exact absurd hop (lowB_nb _ _ _)
 unfold wpOp
 simp only [h0]
 rw [if_pos (by simp [Region.wanted, hgd])]
 exact .inl (run _ _ hK)
theorem kw {ds : List Deferred} {T : Tab} (hT : TabOk P base T) (hg : qK base gl) {W : List Nat} {N : Nat} {Q : AFr → zb → Prop} {Q' : Exit → Act → World → Prop} {c : Ctx} {w : World} (hQ : ∀ fr H c' w' a', Step c w c' w' → Inv base c' H w' → Sim n c' fr a' → a'.defers = ds → Q fr H → Q' .normal a' w') :
  ∀ (m : Nat) (listed : Array Bool) (fr : AFr) (H : zb) (c1 : Ctx) (w1 : World) (a1 : Act), Step c w c1 w1 → Inv base c1 H w1 → Sim n c1 fr a1 → a1.defers = ds → anyB P gl n b T W N ops Q m listed fr H → wpAny P .any ops Q' m listed a1 w1
 | 0, _, fr, H, c1, w1, a1, hs, hi, hm, hd, h => ⟨h.1, hQ fr H c1 w1 a1 hs hi hm hd h.2⟩
 | m + 1, listed, fr, H, c1, w1, a1, hs, hi, hm, hd, h => by
  refine ⟨fun h0 => hQ fr H c1 w1 a1 hs hi hm hd (h.1 h0), fun i hir => ?_⟩
  have hst := h.2 i hir
  unfold stB at hst
  cases ho : ops[i]? with
  | none =>
   rw [ho] at hst
   unfold wpOp
   rw [ho]
   exact kw hT hg hQ m _ fr H c1 w1 a1 hs hi hm hd hst
  | some o =>
   rw [ho] at hst
   obtain ⟨x, H', h1, _, h2⟩ := hst
   have next : ∀ v c' w', Step c1 w1 c' w' → Inv base c' H' w' → Rep c' x v → wpAny P .any ops Q' m (listed.setIfInBounds i true) (a1.put o.dst v) w' := fun v c' w' s' i' r' =>
    kw hT hg hQ m _ _ H' c' w' _ (hs.trans s') i' ((hm.step s').put r' o.dst) ((put_defers _ _ _).trans hd) h2
   by_cases hn : ∃ r, zv P gl n b ops i = .n r
   ·obtain ⟨r, hr⟩ := hn
    obtain ⟨_, hf, _⟩ := flag_n ops hr
    unfold zT at hf
    rw [ho] at hf
    rw [hr] at h1
    exact oper_new (hg := hg) ops ho hi hm hf h1 _ _ next
   ·rw [qo (fun r e => hn ⟨r, e⟩)] at h1
    exact dJ hT hg ops ho hi hm h1 _ _ next
theorem stB_put {T : Tab} {W : List Nat} {N : Nat} {i j : Nat} {oi oj : Oper} {v : AVal} {H H1 : zb} (hij : i ≠ j) (hi : ops[i]? = some oi) (hj : ops[j]? = some oj) (hap : kQ (zg P gl n ops oi) (zg P gl n ops oj) = true)
  (hco : pS b (zg P gl n ops oi) (zg P gl n ops oj) = true)
  (hfl : bJ (zg P gl n ops oi) (zg P gl n ops oj) = true → zv P gl n b ops i ≠ .f ∧ zv P gl n b ops j ≠ .f)
  (htt : jL (zg P gl n ops oi) (zg P gl n ops oj) = true → (zv P gl n b ops i = .t ∨ zv P gl n b ops j = .t) ∨ (b = true ∧ zT P gl n ops j = true ∧ zv P gl n b ops i = .c (zt P gl n ops ops.size)) ∨ (b = true ∧ zT P gl n ops i = true ∧ zv P gl n b ops j = .c (zt P gl n ops ops.size)))
  (hap1 : b = true → nr (zg P gl n ops oi) = true → qp (zg P gl n ops oj) = true → ∃ rs, zv P gl n b ops i = .a rs ∧ zt P gl n ops j ∈ rs)
  (hap2 : b = true → qp (zg P gl n ops oi) = true → nr (zg P gl n ops oj) = true → ∃ rs, zv P gl n b ops j = .a rs ∧ zt P gl n ops i ∈ rs) {K : AFr → zb → Prop} {fr : AFr}
  (hy : jd T N (zv P gl n b ops i) (zg P gl n ops oi) fr H = some (v, H1)) (hsi : wM T W N (zv P gl n b ops i) (zg P gl n ops oi) fr H v H1) (h : stB P gl n b T W N ops j K (put fr oi.dst v) H1) :
  stB P gl n b T W N ops j (fun fr' H' => ∃ H2, jd T N (zv P gl n b ops i) (zg P gl n ops oi) fr' H' = some (v, H2) ∧ wM T W N (zv P gl n b ops i) (zg P gl n ops oi) fr' H' v H2 ∧ K (put fr' oi.dst v) H2) fr H := by
 obtain ⟨h1, h2, h3⟩ := pz hap
 rw [uR] at h1 h2
 rw [uR, uR] at h3
 unfold stB at *
 rw [hj] at h ⊢
 obtain ⟨u, H2, hu, hsj, hk⟩ := h
 have ag1 := cF (fr := fr) (v := v) h1
 rw [pf ag1] at hu
 have hsj' : wM T W N (zv P gl n b ops j) (zg P gl n ops oj) fr H1 u H2 := wR ag1 hsj
 have ag2 := cF (fr := fr) (v := u) h2
 have hev : ∀ G, jd T N (zv P gl n b ops i) (zg P gl n ops oi) (put fr oj.dst u) G = jd T N (zv P gl n b ops i) (zg P gl n ops oi) fr G := fun G => pf ag2 G
 have agb : Agree (kp (zg P gl n ops oi)) fr (put fr oj.dst u) := fun k hk => (ag2 k hk).symm
 have hkk : K (put (put fr oj.dst u) oi.dst v) H2 := by rw [← xr fr oi.dst oj.dst v u h3]; exact hk
 -- one of them comes to the same over any own arrays
 by_cases fi2 : zv P gl n b ops i = .t
 ·rw [fi2] at hsi hy hev ⊢
  have hst : ∀ G, zK T (zg P gl n ops oi) fr G = some (v, G) := hsi
  have hy' : zK T (zg P gl n ops oi) fr H = some (v, H1) := hy
  have e1 : H1 = H := by rw [hst H] at hy'; cases hy'; rfl
  subst e1
  exact ⟨u, H2, hu, hsj', H2, by rw [hev]; exact hst H2, fun G => by have := hev G; exact this.trans (hst G), hkk⟩
 by_cases fj2 : zv P gl n b ops j = .t
 ·rw [fj2] at hsj' hu ⊢
  have hst : ∀ G, zK T (zg P gl n ops oj) fr G = some (u, G) := hsj'
  have hu' : zK T (zg P gl n ops oj) fr H1 = some (u, H2) := hu
  have e1 : H2 = H1 := by rw [hst H1] at hu'; cases hu'; rfl
  subst e1
  exact ⟨u, H, hst H, hst, H2, by rw [hev]; exact hy, wR agb hsi, hkk⟩
 have fresh_of : ∀ {k : Nat} {o : Oper} {r : Nat}, ops[k]? = some o → zv P gl n b ops k = .n r → qp (zg P gl n ops o) = true := fun ho hr => by
  have := (flag_n ops hr).2.1
  unfold zT at this
  rw [ho] at this
  exact this
 have fresh_op : ∀ {o : LOper}, qp o = true → jn o.op = false ∧ z9 o.op = false := fun {o} h => by
  unfold qp at h
  generalize o.op = op at h
  cases op <;> first | (simp at h; done) | exact ⟨rfl, rfl⟩
 have triv : ∀ {k : Nat} {o : LOper} {f : AFr} {G G' : zb} {y : AVal}, (jn o.op = true) → zv P gl n b ops k ≠ .t → wM T W N (zv P gl n b ops k) o f G y G → True := fun _ _ _ => trivial
 unfold pS at hco
 simp only [Bool.or_eq_true, Bool.and_eq_true] at hco
 rcases hco with ((((((hp | hp) | ⟨hri, hrj⟩) | hrw) | ht) | ⟨⟨hb, hni⟩, hnj⟩) | ⟨⟨hb, hni⟩, hnj⟩) | ⟨⟨hb, hni⟩, hnj⟩
 · -- the first is pure
  have ni : ∀ r, zv P gl n b ops i ≠ .n r := fun r e => by rw [(fresh_op (fresh_of hi e)).1] at hp; cases hp
  rw [qo ni] at hy
  obtain ⟨rfl, hall⟩ := pureV hp hy
  have hnr : z9 (zg P gl n ops oi).op = false := by
   generalize (zg P gl n ops oi).op = o at hp
   cases o <;> first | rfl | (simp [jn] at hp)
  refine ⟨u, H2, hu, hsj', H2, by rw [hev, qo ni]; exact hall H2, ?_, hkk⟩
  cases hf : zv P gl n b ops i with
  | f => exact trivial
  | n r => exact trivial
  | t => exact absurd hf fi2
  | c R => obtain ⟨_, _, o', ho', hcl⟩ := sW ops hf; rw [hi] at ho'; cases ho'; rw [(cj hcl).1] at hp; cases hp
  | a rs => have h2 := (sX ops hf).2.1; unfold yy at h2; rw [hi] at h2; rw [(kz h2).1] at hp; cases hp
  | s =>
   show qD _ _ _ _ _ _
   unfold qD
   rw [hnr]
   simp
 · -- the second is pure
  have nj : ∀ r, zv P gl n b ops j ≠ .n r := fun r e => by rw [(fresh_op (fresh_of hj e)).1] at hp; cases hp
  rw [qo nj] at hu
  obtain ⟨rfl, hall⟩ := pureV hp hu
  have hnr : z9 (zg P gl n ops oj).op = false := by
   generalize (zg P gl n ops oj).op = o at hp
   cases o <;> first | rfl | (simp [jn] at hp)
  refine ⟨u, H, by rw [qo nj]; exact hall H, ?_, H2, by rw [hev]; exact hy, wR agb hsi, hkk⟩
  cases hf : zv P gl n b ops j with
  | f => exact trivial
  | n r => exact trivial
  | t => exact absurd hf fj2
  | c R => obtain ⟨_, _, o', ho', hcl⟩ := sW ops hf; rw [hj] at ho'; cases ho'; rw [(cj hcl).1] at hp; cases hp
  | a rs => have h2 := (sX ops hf).2.1; unfold yy at h2; rw [hj] at h2; rw [(kz h2).1] at hp; cases hp
  | s =>
   show qD _ _ _ _ _ _
   unfold qD
   rw [hnr]
   simp
 ·have ni : ∀ r, zv P gl n b ops i ≠ .n r := fun r e => by rw [(fresh_op (fresh_of hi e)).2] at hri; cases hri
  have nj : ∀ r, zv P gl n b ops j ≠ .n r := fun r e => by rw [(fresh_op (fresh_of hj e)).2] at hrj; cases hrj
  have hy0 := hy
  have hu0 := hu
  rw [qo ni] at hy
  rw [qo nj] at hu
  obtain ⟨rfl, _⟩ := pM hri hy
  obtain ⟨rfl, _⟩ := pM hrj hu
  exact ⟨u, H2, hu0, hsj', H2, by rw [hev]; exact hy0, wR agb hsi, hkk⟩
 ·obtain ⟨fi, fj⟩ := hfl hrw
  have untouched : ∀ {k : Nat} {o : LOper} {G G' : zb} {y : AVal}, zv P gl n b ops k ≠ .f → zv P gl n b ops k ≠ .t → z9 o.op = false → jd T N (zv P gl n b ops k) o fr G = some (y, G') → wM T W N (zv P gl n b ops k) o fr G y G' → ∀ q, q < N → q ∉ W → G'[q]? = G[q]? := by
   intro k o G G' y h1 h2 h3 h4 h5 q hq hw
   cases hf : zv P gl n b ops k with
   | f => exact absurd hf h1
   | t => exact absurd hf h2
   | s =>
    rw [hf] at h5
    have h6 : qD W N o fr G G' := h5
    unfold qD at h6
    rw [if_neg (by rw [h3]; simp)] at h6
    exact h6 q hq hw
   | a rs =>
    rw [hf] at h5
    have h6 : qD W N o fr G G' := h5.1
    unfold qD at h6
    rw [if_neg (by rw [h3]; simp)] at h6
    exact h6 q hq hw
   | c R =>
    rw [hf] at h5
    have h6 : qD W N o fr G G' := h5.2.1
    unfold qD at h6
    rw [if_neg (by rw [h3]; simp)] at h6
    exact h6 q hq hw
   | n r =>
    rw [hf] at h4
    obtain ⟨_, _, e, _, _, _, rfl, _⟩ := jq h4
    rw [List.getElem?_set_ne (by omega)]
  have looks : ∀ {k : Nat} {o : Oper} {G : zb} {y : AVal}, ops[k]? = some o → zv P gl n b ops k ≠ .f → zv P gl n b ops k ≠ .t → z9 (zg P gl n ops o).op = true → wM T W N (zv P gl n b ops k) (zg P gl n ops o) fr G y G →
    ((∀ r, zv P gl n b ops k ≠ .n r) ∧ ∀ q ∈ jM fr (zg P gl n ops o).op, q < N ∧ q ∉ W) := by
   intro k o G y h0 h1 h2 h3 h4
   cases hf : zv P gl n b ops k with
   | f => exact absurd hf h1
   | t => exact absurd hf h2
   | n r => have := (fresh_op (fresh_of h0 hf)).2; rw [h3] at this; cases this
   | c R => obtain ⟨_, _, o', ho', hcl⟩ := sW ops hf; rw [h0] at ho'; cases ho'; rw [(cj hcl).2.1] at h3; cases h3
   | a rs => have h2 := (sX ops hf).2.1; unfold yy at h2; rw [h0] at h2; rw [(kz h2).2.1] at h3; cases h3
   | s =>
    rw [hf] at h4
    have h6 : qD W N (zg P gl n ops o) fr G G := h4
    unfold qD at h6
    rw [if_pos h3] at h6
    exact ⟨fun r e => by simp at e, h6⟩
  unfold bJ at hrw
  simp only [Bool.or_eq_true, Bool.and_eq_true, Bool.not_eq_true'] at hrw
  rcases hrw with ⟨⟨hri, hpj⟩, hrj⟩ | ⟨⟨hrj, hpi⟩, hri⟩
  · -- the first looks, the second turns
   have ni : ∀ r, zv P gl n b ops i ≠ .n r := fun r e => by rw [(fresh_op (fresh_of hi e)).2] at hri; cases hri
   rw [qo ni] at hy
   obtain ⟨rfl, hall⟩ := pM hri hy
   have si := (looks hi fi fi2 hri hsi).2
   have sj := untouched fj fj2 hrj hu hsj'
   have hcond : ∀ G, wM T W N (zv P gl n b ops i) (zg P gl n ops oi) fr G v G := fun G => by
    cases hf : zv P gl n b ops i with
    | f => exact trivial
    | n r => exact trivial
    | t => exact absurd hf fi2
    | c R => obtain ⟨_, _, o', ho', hcl⟩ := sW ops hf; rw [hi] at ho'; cases ho'; rw [(cj hcl).2.1] at hri; cases hri
    | a rs => have h2 := (sX ops hf).2.1; unfold yy at h2; rw [hi] at h2; rw [(kz h2).2.1] at hri; cases hri
    | s =>
     show qD _ _ _ _ _ _
     unfold qD
     rw [if_pos hri]
     exact si
   refine ⟨u, H2, hu, hsj', H2, by rw [hev, qo ni]; exact hall H2 (fun k hk => sj k (si k hk).1 (si k hk).2), wR agb (hcond H2), hkk⟩
  · -- the first turns, the second looks
   have nj : ∀ r, zv P gl n b ops j ≠ .n r := fun r e => by rw [(fresh_op (fresh_of hj e)).2] at hrj; cases hrj
   rw [qo nj] at hu
   obtain ⟨rfl, hall⟩ := pM hrj hu
   have sj := (looks hj fj fj2 hrj hsj').2
   have si := untouched fi fi2 hri hy hsi
   have hcond : ∀ G, wM T W N (zv P gl n b ops j) (zg P gl n ops oj) fr G u G := fun G => by
    cases hf : zv P gl n b ops j with
    | f => exact trivial
    | n r => exact trivial
    | t => exact absurd hf fj2
    | c R => obtain ⟨_, _, o', ho', hcl⟩ := sW ops hf; rw [hj] at ho'; cases ho'; rw [(cj hcl).2.1] at hrj; cases hrj
    | a rs => have h2 := (sX ops hf).2.1; unfold yy at h2; rw [hj] at h2; rw [(kz h2).2.1] at hrj; cases hrj
    | s =>
     show qD _ _ _ _ _ _
     unfold qD
     rw [if_pos hrj]
     exact sj
   refine ⟨u, H, by rw [qo nj]; exact hall H (fun k hk => (si k (sj k hk).1 (sj k hk).2).symm), hcond H, H2, by rw [hev]; exact hy, wR agb hsi, hkk⟩
 ·rcases htt ht with (h | h) | ⟨hb, gj, fi⟩ | ⟨hb, gi, fj⟩
  ·exact absurd h fi2
  ·exact absurd h fj2
  · -- a call, a new variable
   have ej : zv P gl n b ops j = .n (zt P gl n ops j) := by unfold zv; rw [if_pos (by simp [hb, gj])]
   have hr : zt P gl n ops j < zt P gl n ops ops.size := pN ops (Array.getElem?_eq_some_iff.1 hj).1 gj
   rw [fi] at hy hsi hev ⊢
   rw [ej] at hu ⊢
   have hy' : zK T (zg P gl n ops oi) fr H = some (v, H1) := hy
   obtain ⟨⟨hl, hl1⟩, hsd, hM⟩ := hsi
   obtain ⟨valj, entj, e2, hj1, m2, rfl, rfl, allj⟩ := jq hu
   have hm := mid_of hl
   have e1 : H1 = jt N (zt P gl n ops ops.size) H1 ((H.drop N).take (zt P gl n ops ops.size)) := by
    have h1 := hM _ hm
    rw [sG hl, hy'] at h1
    simp only [Option.some.injEq, Prod.mk.injEq, true_and] at h1
    exact h1
   have hH : H = jt N (zt P gl n ops ops.size) H ((H.drop N).take (zt P gl n ops ops.size)) := (sG hl).symm
   obtain ⟨mm, hmm⟩ : ∃ mm, mm = (H.drop N).take (zt P gl n ops ops.size) := ⟨_, rfl⟩
   rw [← hmm] at hm e1 hH
   have hg : H[N + zt P gl n ops j]? = some e2 := by
    rw [e1, pR hl1 hm hr] at hj1
    rw [hH, pR hl hm hr]
    exact hj1
   have hs1 : H.set (N + zt P gl n ops j) (entj (e2.ver + 1)) = jt N (zt P gl n ops ops.size) H (mm.set (zt P gl n ops j) (entj (e2.ver + 1))) := by
    conv => lhs; rw [hH]
    rw [pP hl hm hr]
   have hs2 : H1.set (N + zt P gl n ops j) (entj (e2.ver + 1)) = jt N (zt P gl n ops ops.size) H1 (mm.set (zt P gl n ops j) (entj (e2.ver + 1))) := by
    conv => lhs; rw [e1]
    rw [pP hl1 hm hr]
   have hml : (mm.set (zt P gl n ops j) (entj (e2.ver + 1))).length = zt P gl n ops ops.size := by rw [List.length_set]; exact hm
   have key := hM _ hml
   refine ⟨_, H.set (N + zt P gl n ops j) (entj (e2.ver + 1)), ?_, trivial, H1.set (N + zt P gl n ops j) (entj (e2.ver + 1)), ?_, ?_, hkk⟩
   ·exact allj _ _ hg m2
   ·rw [hev]
    show zK _ _ _ _ = _
    rw [hs1, hs2]
    exact key
   ·refine wR (fl := .c (zt P gl n ops ops.size)) agb ⟨⟨by rw [List.length_set]; exact hl, by rw [List.length_set]; exact hl1⟩, ?_, fun M hMl => ?_⟩
    ·unfold qD at hsd ⊢
     split at hsd
     ·rename_i hr'; rw [if_pos hr']; exact hsd
     ·rename_i hr'
      rw [if_neg hr']
      intro q hq hw
      rw [List.getElem?_set_ne (by omega), List.getElem?_set_ne (by omega)]
      exact hsd q hq hw
    ·rw [hs1, hs2, pQ hl hml, pQ hl1 hml]
     exact hM M hMl
  · -- a new variable, a call
   have ei : zv P gl n b ops i = .n (zt P gl n ops i) := by unfold zv; rw [if_pos (by simp [hb, gi])]
   have hr : zt P gl n ops i < zt P gl n ops ops.size := pN ops (Array.getElem?_eq_some_iff.1 hi).1 gi
   rw [ei] at hy hev ⊢
   rw [fj] at hu hsj' ⊢
   obtain ⟨vali, enti, e1, hi1, m1, rfl, rfl, alli⟩ := jq hy
   obtain ⟨⟨hl, hl2⟩, hsd, hM⟩ := hsj'
   rw [List.length_set] at hl
   have hm := mid_of hl
   have hH : H = jt N (zt P gl n ops ops.size) H ((H.drop N).take (zt P gl n ops ops.size)) := (sG hl).symm
   obtain ⟨mm, hmm⟩ : ∃ mm, mm = (H.drop N).take (zt P gl n ops ops.size) := ⟨_, rfl⟩
   rw [← hmm] at hm hH
   have hs1 : H.set (N + zt P gl n ops i) (enti (e1.ver + 1)) = jt N (zt P gl n ops ops.size) H (mm.set (zt P gl n ops i) (enti (e1.ver + 1))) := by
    conv => lhs; rw [hH]
    rw [pP hl hm hr]
   have hml : (mm.set (zt P gl n ops i) (enti (e1.ver + 1))).length = zt P gl n ops ops.size := by rw [List.length_set]; exact hm
   have hM' : ∀ M : zb, M.length = zt P gl n ops ops.size → zK T (zg P gl n ops oj) fr (jt N (zt P gl n ops ops.size) H M) = some (u, jt N (zt P gl n ops ops.size) H2 M) := fun M hMl => by
    have := hM M hMl
    rw [hs1, pQ hl hml] at this
    exact this
   have hu' : zK T (zg P gl n ops oj) fr (jt N (zt P gl n ops ops.size) H (mm.set (zt P gl n ops i) (enti (e1.ver + 1)))) = some (u, H2) := by rw [← hs1]; exact hu
   have e2 : H2 = jt N (zt P gl n ops ops.size) H2 (mm.set (zt P gl n ops i) (enti (e1.ver + 1))) := by
    have h1 := hM' _ hml
    rw [hu'] at h1
    simp only [Option.some.injEq, Prod.mk.injEq, true_and] at h1
    exact h1
   have h0 := hM' mm hm
   rw [← hH] at h0
   have hg : (jt N (zt P gl n ops ops.size) H2 mm)[N + zt P gl n ops i]? = some e1 := by
    rw [pR hl2 hm hr]
    rw [hH, pR hl hm hr] at hi1
    exact hi1
   refine ⟨u, jt N (zt P gl n ops ops.size) H2 mm, h0, ⟨⟨hl, by rw [mid_len hl2 hm]; exact hl2⟩, ?_, fun M hMl => by rw [pQ hl2 hm]; exact hM' M hMl⟩, H2, ?_, trivial, hkk⟩
   ·unfold qD at hsd ⊢
    split at hsd
    ·rename_i hr'; rw [if_pos hr']; exact hsd
    ·rename_i hr'
     rw [if_neg hr']
     intro q hq hw
     have h1 := hsd q hq hw
     rw [List.getElem?_set_ne (by omega)] at h1
     rw [← h1]
     unfold jt
     rw [List.append_assoc, List.getElem?_append_left (by simp; omega), List.getElem?_take, if_pos hq]
   ·rw [hev]
    refine (alli _ _ hg m1).trans ?_
    rw [pP hl2 hm hr, ← e2]
 · -- two new variables
  have gi : zT P gl n ops i = true := by unfold zT; rw [hi]; exact hni
  have gj : zT P gl n ops j = true := by unfold zT; rw [hj]; exact hnj
  have ei : zv P gl n b ops i = .n (zt P gl n ops i) := by unfold zv; rw [if_pos (by simp [hb, gi])]
  have ej : zv P gl n b ops j = .n (zt P gl n ops j) := by unfold zv; rw [if_pos (by simp [hb, gj])]
  have hne := rank_ne ops hij gi gj
  rw [ei] at hy hev ⊢
  rw [ej] at hu ⊢
  obtain ⟨vali, enti, e1, hi1, m1, rfl, rfl, alli⟩ := jq hy
  obtain ⟨valj, entj, e2, hj1, m2, rfl, rfl, allj⟩ := jq hu
  rw [List.getElem?_set_ne (by omega)] at hj1
  refine ⟨_, H.set (N + zt P gl n ops j) (entj (e2.ver + 1)), ?_, trivial, (H.set (N + zt P gl n ops i) (enti (e1.ver + 1))).set (N + zt P gl n ops j) (entj (e2.ver + 1)), ?_, trivial, hkk⟩
  ·exact allj _ _ hj1 m2
  ·rw [hev]
   refine (alli _ _ (by rw [List.getElem?_set_ne (by omega)]; exact hi1) m1).trans ?_
   rw [List.set_comm _ _ (by omega)]
 · -- a new variable, an append
  have gi : zT P gl n ops i = true := by unfold zT; rw [hi]; exact hni
  have ei : zv P gl n b ops i = .n (zt P gl n ops i) := by unfold zv; rw [if_pos (by simp [hb, gi])]
  obtain ⟨rs, fj, hmem⟩ := hap2 hb hni hnj
  rw [ei] at hy hev ⊢
  rw [fj] at hu hsj' ⊢
  obtain ⟨hsd, hno⟩ := hsj'
  have hN : N + zt P gl n ops i ∉ jv fr (zg P gl n ops oj).op := (hno _ hmem).2
  obtain ⟨vali, enti, e1, hi1, m1, rfl, rfl, alli⟩ := jq hy
  have hk : N + zt P gl n ops i < H.length := (List.getElem?_eq_some_iff.1 hi1).1
  have hsame : ∀ q ∈ jv fr (zg P gl n ops oj).op, H[q]? = (H.set (N + zt P gl n ops i) (enti (e1.ver + 1)))[q]? := fun q hq => by
   rw [List.getElem?_set_ne (fun h => by rw [← h] at hq; exact hN hq)]
  have nrd : ¬ z9 (zg P gl n ops oj).op = true := by rw [(kz hnj).2.1]; simp
  unfold qD at hsd
  rw [if_neg nrd] at hsd
  have hu' : zK T (zg P gl n ops oj) fr (H.set (N + zt P gl n ops i) (enti (e1.ver + 1))) = some (u, H2) := hu
  have key : ∃ H3, zK T (zg P gl n ops oj) fr H = some (u, H3) ∧ H3[N + zt P gl n ops i]? = some e1 ∧ H3.set (N + zt P gl n ops i) (enti (e1.ver + 1)) = H2 ∧ ∀ q, q < N → q ∉ W → H3[q]? = H[q]? := by
   rcases iS hnj hu' with ⟨k, e', hkm, hH2, hall⟩ | ⟨hH2, hall⟩ | ⟨ent, hH2, hall⟩
   ·have hne : N + zt P gl n ops i ≠ k := fun h => hN (h ▸ hkm)
    refine ⟨_, hall H (by simp) hsame, by rw [List.getElem?_set_ne (Ne.symm hne)]; exact hi1, by rw [hH2, List.set_comm _ _ (Ne.symm hne)], fun q hq hw => ?_⟩
    have := hsd q hq hw
    have h5 : N + zt P gl n ops i ≠ q := by omega
    rw [hH2, List.set_comm _ _ hne, List.getElem?_set_ne h5, List.getElem?_set_ne h5] at this
    exact this
   ·exact ⟨_, hall H (by simp) hsame, hi1, hH2.symm, fun q _ _ => rfl⟩
   ·refine ⟨_, hall H (by simp) hsame, by rw [List.getElem?_append_left hk]; exact hi1, by rw [hH2, List.set_append_left _ _ hk], fun q hq hw => ?_⟩
    rw [List.getElem?_append_left (by omega)]
  obtain ⟨H3, k1, k2, k3, k4⟩ := key
  refine ⟨u, H3, k1, ⟨?_, fun r hr => by have := hno r hr; rw [List.length_set] at this; exact this⟩, H2, ?_, trivial, hkk⟩
  ·unfold qD
   rw [if_neg nrd]
   exact k4
  ·rw [hev]
   refine (alli _ _ k2 m1).trans ?_
   rw [k3]
 · -- an append, a new variable
  have gj : zT P gl n ops j = true := by unfold zT; rw [hj]; exact hnj
  have ej : zv P gl n b ops j = .n (zt P gl n ops j) := by unfold zv; rw [if_pos (by simp [hb, gj])]
  obtain ⟨rs, fi, hmem⟩ := hap1 hb hni hnj
  rw [ej] at hu ⊢
  rw [fi] at hy hsi hev ⊢
  obtain ⟨hsd, hno⟩ := hsi
  have hN : N + zt P gl n ops j ∉ jv fr (zg P gl n ops oi).op := (hno _ hmem).2
  have hy' : zK T (zg P gl n ops oi) fr H = some (v, H1) := hy
  have nrd : ¬ z9 (zg P gl n ops oi).op = true := by rw [(kz hni).2.1]; simp
  unfold qD at hsd
  rw [if_neg nrd] at hsd
  obtain ⟨valj, entj, e2, hj1, m2, rfl, rfl, allj⟩ := jq hu
  have hsame : ∀ q ∈ jv fr (zg P gl n ops oi).op, (H.set (N + zt P gl n ops j) (entj (e2.ver + 1)))[q]? = H[q]? := fun q hq => by
   rw [List.getElem?_set_ne (fun h => by rw [← h] at hq; exact hN hq)]
  have key : H[N + zt P gl n ops j]? = some e2 ∧ zK T (zg P gl n ops oi) fr (H.set (N + zt P gl n ops j) (entj (e2.ver + 1))) = some (v, H1.set (N + zt P gl n ops j) (entj (e2.ver + 1))) := by
   rcases iS hni hy' with ⟨k, e', hkm, hH1, hall⟩ | ⟨hH1, hall⟩ | ⟨ent, hH1, hall⟩
   ·have hne : N + zt P gl n ops j ≠ k := fun h => hN (h ▸ hkm)
    rw [hH1, List.getElem?_set_ne (Ne.symm hne)] at hj1
    exact ⟨hj1, by rw [hall _ (by simp) hsame, hH1, List.set_comm _ _ hne]⟩
   ·rw [hH1] at hj1
    exact ⟨hj1, by rw [hall _ (by simp) hsame, hH1]⟩
   ·have hk : N + zt P gl n ops j < H.length := (hno _ hmem).1
    rw [hH1, List.getElem?_append_left hk] at hj1
    exact ⟨hj1, by rw [hall _ (by simp) hsame, hH1, List.set_append_left _ _ hk]⟩
  refine ⟨_, H.set (N + zt P gl n ops j) (entj (e2.ver + 1)), allj _ _ key.1 m2, trivial, _, ?_, ?_, hkk⟩
  ·rw [hev]; exact key.2
  ·refine wR (fl := .a rs) agb ⟨?_, fun r hr => by rw [List.length_set]; exact hno r hr⟩
   unfold qD
   rw [if_neg nrd]
   intro q hq hw
   rw [List.getElem?_set_ne (by omega), List.getElem?_set_ne (by omega)]
   exact hsd q hq hw
def Closed (ops : Array Oper) (listed : Array Bool) : Prop := ∀ (x : Nat) o, ops[x]? = some o → listed.getD x false = true → ∀ e ∈ o.after, Region.binds .any e = true → listed.getD e.on false = true
theorem iV {acc : List Nat} {i : Nat} : ∀ (l : List Edge) (m : Nat), (l.foldl (ancE acc) m).testBit i = true → m.testBit i = true ∨ ∃ e ∈ l, Region.binds .any e = true ∧ (e.on = i ∨ (acc.getD e.on 0).testBit i = true)
 | [], m, h => .inl h
 | e :: l, m, h => by
  rcases iV l _ h with h1 | ⟨e', h1, h2⟩
  ·unfold ancE at h1
   split at h1
   ·rename_i hb
    simp only [Nat.testBit_or, Bool.or_eq_true] at h1
    rcases h1 with (h1 | h1) | h1
    ·exact .inl h1
    ·refine .inr ⟨e, by simp, hb, .inl ?_⟩
     simp only [Nat.testBit_shiftLeft, Bool.and_eq_true, decide_eq_true_eq] at h1
     have := h1.2
     by_cases h0 : i - e.on = 0
     ·omega
     ·rw [Nat.testBit_one_eq_true_iff_self_eq_zero] at this; omega
    ·exact .inr ⟨e, by simp, hb, .inr h1⟩
   ·exact .inl h1
  ·exact .inr ⟨e', by simp [h1], h2⟩
def Bars (ops : Array Oper) (listed : Array Bool) (i : Nat) (acc : List Nat) : Prop := ∀ j, (acc.getD j 0).testBit i = true → listed.getD j true = false ∧ j ∉ Region.ready .any ops listed
theorem xX {listed : Array Bool} {i : Nat} (hc : Closed ops listed) (hsz : listed.size = ops.size) (hi : listed.getD i true = false) : ∀ (l : List Oper) (acc : List Nat), (∀ j : Nat, l[j]? = ops[acc.length + j]?) → Bars ops listed i acc → Bars ops listed i (ancs l acc)
 | [], acc, _, h => h
 | o :: r, acc, hl, h => by
  refine xX hc hsz hi r _ (fun j => by have := hl (j + 1); simpa [Nat.add_assoc, Nat.add_comm 1 j] using this) (fun j hj => ?_)
  by_cases hlt : j < acc.length
  ·rw [List.getD_eq_getElem?_getD, List.getElem?_append_left hlt, ← List.getD_eq_getElem?_getD] at hj
   exact h j hj
  ·by_cases he : j = acc.length
   ·subst he
    rw [List.getD_eq_getElem?_getD, List.getElem?_append_right (Nat.le_refl _)] at hj
    simp only [Nat.sub_self, List.getElem?_cons_zero, Option.getD_some] at hj
    have h0 : ops[acc.length]? = some o := by simpa using (hl 0).symm
    have hlt : acc.length < listed.size := by rw [hsz]; exact (Array.getElem?_eq_some_iff.1 h0).1
    rcases iV _ _ hj with h1 | ⟨e, he, hb, h1⟩
    ·simp at h1
    ·have hun : listed.getD e.on true = false := by
      rcases h1 with h1 | h1
      ·rw [h1]; exact hi
      ·exact (h _ h1).1
     have hem : e ∈ o.after := by simpa using he
     have hno : listed.getD e.on false ≠ true := fun h2 => by
      rcases Nat.lt_or_ge e.on listed.size with h' | h'
      ·simp [h'] at hun h2; rw [hun] at h2; cases h2
      ·simp [Array.getElem?_eq_none h'] at hun
     constructor
     ·cases hL : listed.getD acc.length true with
      | false => rfl
      | true =>
       have hL' : listed.getD acc.length false = true := by simp [hlt] at hL ⊢; exact hL
       exact absurd (hc _ o h0 hL' e hem hb) hno
     ·intro hr
      obtain ⟨_, o', ho', hall⟩ := mem_ready.1 hr
      rw [h0] at ho'
      cases ho'
      exact hno (hall e hem hb)
   ·rw [List.getD_eq_getElem?_getD, List.getElem?_eq_none (by simp; omega)] at hj
    simp at hj
theorem tg {listed : Array Bool} {i j : Nat} (hc : Closed ops listed) (hsz : listed.size = ops.size) (hi : listed.getD i true = false) (hb : behind (nt ops) j i = true) : j ∉ Region.ready .any ops listed :=
 (xX ops hc hsz hi ops.toList [] (by simp) (fun j h => by simp at h) j hb).2
theorem Closed.step {listed : Array Bool} {j : Nat} (hc : Closed ops listed) (hj : j ∈ Region.ready .any ops listed) : Closed ops (listed.setIfInBounds j true) := by
 intro x o hx hL e he hb
 by_cases hxj : j = x
 ·subst hxj
  obtain ⟨_, o', ho', hall⟩ := mem_ready.1 hj
  rw [hx] at ho'
  cases ho'
  exact getD_set_true (hall e he hb)
 ·rw [getD_set_ne false hxj] at hL
  exact getD_set_true (hc x o hx hL e he hb)
def FreeW (P : Program) (gl : Nat → AVal) (n : Nat) (b : Bool) (ops : Array Oper) (i j : Nat) (oi oj : Oper) : Prop :=
 kQ (zg P gl n ops oi) (zg P gl n ops oj) = true ∧ pS b (zg P gl n ops oi) (zg P gl n ops oj) = true
theorem anyB_first {T : Tab} {W : List Nat} {N : Nat} {Q : AFr → zb → Prop} {i : Nat} {oi : Oper} {v : AVal} (hi : ops[i]? = some oi) :
  ∀ (m : Nat) (listed : Array Bool) (fr : AFr) (H H1 : zb), Closed ops listed → listed.size = ops.size →
   (∀ j oj, ops[j]? = some oj → j ≠ i → listed.getD j true = false → behind (nt ops) j i = false → FreeW P gl n b ops i j oi oj) →
   i ∈ Region.ready .any ops listed → jd T N (zv P gl n b ops i) (zg P gl n ops oi) fr H = some (v, H1) → wM T W N (zv P gl n b ops i) (zg P gl n ops oi) fr H v H1 →
   anyB P gl n b T W N ops Q m (listed.setIfInBounds i true) (put fr oi.dst v) H1 → anyB P gl n b T W N ops Q (m + 1) listed fr H := by
 intro m
 induction m with
 | zero =>
  intro listed fr H H1 _ _ _ hr hy hs hh
  refine ⟨fun h => (by rw [h] at hr; cases hr), fun j hj => ?_⟩
  by_cases hji : j = i
  ·subst hji; unfold stB; rw [hi]; exact ⟨v, H1, hy, hs, hh⟩
  ·have := ready_mono hj hji
   rw [hh.1] at this
   cases this
 | succ m ih =>
  intro listed fr H H1 hcl hsz hfree hr hy hs hh
  refine ⟨fun h => (by rw [h] at hr; cases hr), fun j hj => ?_⟩
  by_cases hji : j = i
  ·subst hji; unfold stB; rw [hi]; exact ⟨v, H1, hy, hs, hh⟩
  ·have h1 := hh.2 j (ready_mono hj hji)
   obtain ⟨hjun, oj, hoj, hall⟩ := mem_ready.1 hj
   have hiun : listed.getD i true = false := (mem_ready.1 hr).1
   have hnot : behind (nt ops) j i = false := by
    cases hb : behind (nt ops) j i with
    | false => rfl
    | true => exact absurd hj (tg ops hcl hsz hiun hb)
   have hnoti : behind (nt ops) i j = false := by
    cases hb : behind (nt ops) i j with
    | false => rfl
    | true => exact absurd hr (tg ops hcl hsz hjun hb)
   obtain ⟨hap, hco⟩ := hfree j oj hoj hji hjun hnot
   have hlti : i < ops.size := (Array.getElem?_eq_some_iff.1 hi).1
   have hltj : j < ops.size := (Array.getElem?_eq_some_iff.1 hoj).1
   have hij : j ≠ i := hji
   have open1 : ∀ p : LOper → LOper → Bool, p (zg P gl n ops oi) (zg P gl n ops oj) = true → uz P gl n p ops i = true := fun p hp => by
    unfold uz
    rw [List.any_eq_true]
    refine ⟨j, List.mem_range.2 hltj, ?_⟩
    rw [hi, hoj]
    simp [hp, hnoti, hnot, hij]
   have open2 : ∀ p : LOper → LOper → Bool, p (zg P gl n ops oj) (zg P gl n ops oi) = true → uz P gl n p ops j = true := fun p hp => by
    unfold uz
    rw [List.any_eq_true]
    refine ⟨i, List.mem_range.2 hlti, ?_⟩
    rw [hi, hoj]
    simp [hp, hnoti, hnot, Ne.symm hij]
   have nz : ∀ k, uz P gl n bJ ops k = true → zv P gl n b ops k ≠ .f := fun k hk => by
    unfold zv
    rw [hk]
    repeat' split
    all_goals simp_all
   have hfl : bJ (zg P gl n ops oi) (zg P gl n ops oj) = true → zv P gl n b ops i ≠ .f ∧ zv P gl n b ops j ≠ .f := fun hrw => by
    have hrw' : bJ (zg P gl n ops oj) (zg P gl n ops oi) = true := by
     unfold bJ at hrw ⊢
     rw [Bool.or_comm]
     exact hrw
    exact ⟨nz i (open1 _ hrw), nz j (open2 _ hrw')⟩
   have htt : jL (zg P gl n ops oi) (zg P gl n ops oj) = true → (zv P gl n b ops i = .t ∨ zv P gl n b ops j = .t) ∨ (b = true ∧ zT P gl n ops j = true ∧ zv P gl n b ops i = .c (zt P gl n ops ops.size)) ∨ (b = true ∧ zT P gl n ops i = true ∧ zv P gl n b ops j = .c (zt P gl n ops ops.size)) := fun ht => by
    have ht' : jL (zg P gl n ops oj) (zg P gl n ops oi) = true := by
     unfold jL at ht ⊢
     rw [Bool.and_comm (lu _), Bool.or_comm]
     exact ht
    have hc : wW (zg P gl n ops oi).op = true ∨ wW (zg P gl n ops oj).op = true := by
     unfold jL at ht
     simp only [Bool.and_eq_true, Bool.or_eq_true] at ht
     exact ht.2
    have ft : ∀ {k : Nat} {o : Oper}, ops[k]? = some o → wW (zg P gl n ops o).op = true → ¬ (b && zT P gl n ops k) = true := fun {k o} hk hcall hb => by
     simp only [Bool.and_eq_true] at hb
     have hb := hb.2
     unfold zT at hb
     rw [hk] at hb
     simp only at hb
     unfold qp at hb
     generalize (zg P gl n ops o).op = op at hb hcall
     cases op <;> first | (simp at hb; done) | (simp [wW] at hcall; done)
    have fa : ∀ {k : Nat} {o : Oper}, ops[k]? = some o → wW (zg P gl n ops o).op = true → ¬ (b && yy P gl n ops k && !(q8 P gl n ops k).isEmpty) = true := fun {k o} hk hcall hb => by
     simp only [Bool.and_eq_true] at hb
     have hb := hb.1.2
     unfold yy at hb
     rw [hk] at hb
     rw [(kz hb).2.2.1] at hcall
     cases hcall
    rcases hc with hc | hc
    ·by_cases hst : uz P gl n (fun x y => wW x.op && jL x y && !(b && qp y)) ops i = true
     ·left; left
      unfold zv
      rw [if_neg (ft hi hc), if_neg (fa hi hc), if_pos hst]
     ·right; left
      have hbf : (b && qp (zg P gl n ops oj)) = true := by
       cases hbf : (b && qp (zg P gl n ops oj)) with
       | true => rfl
       | false => exact absurd (open1 (fun x y => wW x.op && jL x y && !(b && qp y)) (by simp only [hc, ht, hbf]; rfl)) hst
      simp only [Bool.and_eq_true] at hbf
      refine ⟨hbf.1, by unfold zT; rw [hoj]; exact hbf.2, ?_⟩
      unfold zv
      rw [if_neg (ft hi hc), if_neg (fa hi hc), if_neg hst, if_pos (by rw [hbf.1, open1 (fun x y => wW x.op && jL x y) (by simp [hc, ht])]; rfl)]
    ·by_cases hst : uz P gl n (fun x y => wW x.op && jL x y && !(b && qp y)) ops j = true
     ·left; right
      unfold zv
      rw [if_neg (ft hoj hc), if_neg (fa hoj hc), if_pos hst]
     ·right; right
      have hbf : (b && qp (zg P gl n ops oi)) = true := by
       cases hbf : (b && qp (zg P gl n ops oi)) with
       | true => rfl
       | false => exact absurd (open2 (fun x y => wW x.op && jL x y && !(b && qp y)) (by simp only [hc, ht', hbf]; rfl)) hst
      simp only [Bool.and_eq_true] at hbf
      refine ⟨hbf.1, by unfold zT; rw [hi]; exact hbf.2, ?_⟩
      unfold zv
      rw [if_neg (ft hoj hc), if_neg (fa hoj hc), if_neg hst, if_pos (by rw [hbf.1, open2 (fun x y => wW x.op && jL x y) (by simp [hc, ht'])]; rfl)]
   have hap1 : b = true → nr (zg P gl n ops oi) = true → qp (zg P gl n ops oj) = true → ∃ rs, zv P gl n b ops i = .a rs ∧ zt P gl n ops j ∈ rs := fun hb ha hf => by
    have gj : zT P gl n ops j = true := by unfold zT; rw [hoj]; exact hf
    have gi : zT P gl n ops i = false := by unfold zT; rw [hi]; exact (kz ha).2.2.2
    have ai : yy P gl n ops i = true := by unfold yy; rw [hi]; exact ha
    have hm : zt P gl n ops j ∈ q8 P gl n ops i := by
     unfold q8
     refine List.mem_map.2 ⟨j, List.mem_filter.2 ⟨List.mem_range.2 hltj, ?_⟩, rfl⟩
     simp [hij, gj, hnoti, hnot]
    have hne : (q8 P gl n ops i).isEmpty = false := by
     cases hh : q8 P gl n ops i with
     | nil => rw [hh] at hm; cases hm
     | cons _ _ => rfl
    exact ⟨_, by unfold zv; rw [if_neg (by simp [gi]), if_pos (by simp [hb, ai, hne])], hm⟩
   have hap2 : b = true → qp (zg P gl n ops oi) = true → nr (zg P gl n ops oj) = true → ∃ rs, zv P gl n b ops j = .a rs ∧ zt P gl n ops i ∈ rs := fun hb hf ha => by
    have gi : zT P gl n ops i = true := by unfold zT; rw [hi]; exact hf
    have gj : zT P gl n ops j = false := by unfold zT; rw [hoj]; exact (kz ha).2.2.2
    have aj : yy P gl n ops j = true := by unfold yy; rw [hoj]; exact ha
    have hm : zt P gl n ops i ∈ q8 P gl n ops j := by
     unfold q8
     refine List.mem_map.2 ⟨i, List.mem_filter.2 ⟨List.mem_range.2 hlti, ?_⟩, rfl⟩
     simp [Ne.symm hij, gi, hnoti, hnot]
    have hne : (q8 P gl n ops j).isEmpty = false := by
     cases hh : q8 P gl n ops j with
     | nil => rw [hh] at hm; cases hm
     | cons _ _ => rfl
    exact ⟨_, by unfold zv; rw [if_neg (by simp [gj]), if_pos (by simp [hb, aj, hne])], hm⟩
   have h2 := stB_put ops (Ne.symm hji) hi hoj hap hco hfl htt hap1 hap2 hy hs h1
   have hfree' : ∀ k ok, ops[k]? = some ok → k ≠ i → (listed.setIfInBounds j true).getD k true = false →
     behind (nt ops) k i = false → FreeW P gl n b ops i k oi ok := fun k ok hk hki hun hno => by
    refine hfree k ok hk hki ?_ hno
    by_cases hjk : j = k
    ·subst hjk; exact hjun
    ·rw [getD_set_ne true hjk] at hun; exact hun
   refine stB_mono ops (fun fr' H' h3 => ?_) h2
   obtain ⟨H3, q1, q2, q3⟩ := h3
   refine ih (listed.setIfInBounds j true) fr' H' H3 (hcl.step ops hj) (by rw [Array.size_setIfInBounds, hsz]) hfree' (ready_mono hr (Ne.symm hji)) q1 q2 ?_
   rw [Array.setIfInBounds_comm _ _ hji]
   exact q3
theorem ov {listed : Array Bool} {k : Nat} {ok : Oper} (hk : ops[k]? = some ok) (h : ow P gl n b ops listed k = true) : ∀ j oj, ops[j]? = some oj → j ≠ k → listed.getD j true = false → behind (nt ops) j k = false →
  FreeW P gl n b ops k j ok oj := by
 intro j oj hj hjk hun hno
 unfold ow at h
 have hlt : j < ops.size := (Array.getElem?_eq_some_iff.1 hj).1
 have := List.all_eq_true.1 h j (List.mem_range.2 hlt)
 rw [hj, hk] at this
 simp only [Bool.or_eq_true, beq_iff_eq] at this
 rcases this with ((h1 | h1) | h1) | h1
 ·exact absurd h1 hjk
 ·rw [hun] at h1; cases h1
 ·rw [hno] at h1; cases h1
 ·simp only [Bool.and_eq_true] at h1
  exact h1
theorem ti {T : Tab} {W : List Nat} {N : Nat} {Q : AFr → zb → Prop} : ∀ (l : List Oper) (k : Nat) (listed : Array Bool) (fr : AFr) (H : zb), Closed ops listed → listed.size = ops.size → (∀ j : Nat, l[j]? = ops[k + j]?) → sO P gl n b ops l.length k listed = true →
  pg T W N Q (wi P gl n b ops k l) fr H → anyB P gl n b T W N ops Q l.length listed fr H
 | [], _, listed, fr, H, _, _, _, hB, h => ⟨by simpa [sO] using hB, h⟩
 | o :: l, k, listed, fr, H, hcl, hsz, hl, hB, h => by
  have h0 : ops[k]? = some o := by simpa using (hl 0).symm
  simp only [List.length_cons, sO, Bool.and_eq_true] at hB
  obtain ⟨⟨hr, hf⟩, hB'⟩ := hB
  simp only [wi, pg] at h
  cases hev : jd T N (zv P gl n b ops k) (zg P gl n ops o) fr H with
  | none => rw [hev] at h; exact h.elim
  | some r =>
   obtain ⟨x, H'⟩ := r
   rw [hev] at h
   simp only at h
   obtain ⟨hs, h2⟩ := h
   rw [uR] at h2
   have hrk : k ∈ Region.ready .any ops listed := by simpa using hr
   exact anyB_first ops h0 l.length listed fr H H' hcl hsz (ov ops h0 hf) hrk hev hs
    (ti l (k + 1) _ _ H' (hcl.step ops hrk) (by rw [Array.size_setIfInBounds, hsz]) (fun j => by have := hl (j + 1); simpa [Nat.add_assoc, Nat.add_comm 1 j] using this) hB' h2)
end
end Go.Abs

namespace Go.Abs
variable {P : Program} {base : Prot}
theorem Inv.keepN {c : Ctx} {H : zb} {w : World} (hI : Inv base c H w) : ∀ R : Nat, ∃ c', Step c w c' w ∧ Inv base c' (H ++ List.replicate R kept) w
 | 0 => ⟨c, .refl _ _, by simpa using hI⟩
 | R + 1 => by
  obtain ⟨c1, s1, i1⟩ := Inv.keepN hI R
  obtain ⟨s2, i2⟩ := i1.allocNil 1 0 (by omega)
  refine ⟨_, s1.trans s2, ?_⟩
  have : H ++ List.replicate (R + 1) kept = H ++ List.replicate R kept ++ [⟨1, 0, false, [], 0⟩] := by
   rw [List.replicate_succ', List.append_assoc]; rfl
  rw [this]
  exact i2
theorem dm {gl : Nat → AVal} {n : Nat} (ops : Array Oper) : ∀ (l : List Oper) (k : Nat), ∀ p ∈ wi P gl n false ops k l, ∀ r, p.2 ≠ .n r
 | [], _, p, hp, _ => by simp [wi] at hp
 | o :: l, k, p, hp, r => by
  simp only [wi, List.mem_cons] at hp
  rcases hp with rfl | hp
  ·intro h
   have := flag_n ops (P := P) (gl := gl) (n := n) (b := false) (i := k) (r := r) h
   cases this.1
  ·exact dm ops l (k + 1) p hp r
theorem s7 {T : Tab} {W : List Nat} {N : Nat} {Q : AFr → zb → Prop} : ∀ {l : List (LOper × Fl)} {fr : AFr} {H : zb}, (∀ p ∈ l, ∀ r, p.2 ≠ .n r) → evalW T W N Q l fr H → pg T W N Q l fr H
 | [], _, _, _, h => h
 | (o, fl) :: r, fr, H, hl, h => by
  simp only [evalW] at h
  simp only [pg, qo (hl (o, fl) (by simp))]
  cases hv : zK T o fr H with
  | none => rw [hv] at h; exact h.elim
  | some p =>
   rw [hv] at h
   exact ⟨h.1, s7 (fun q hq => hl q (by simp [hq])) h.2⟩
def oD : LExit → Exit
 | .normal => .normal
 | .exit id => .exit id
 | .ret => .ret
def LQ (base : Prot) (ds : List Deferred) (n : Nat) (c : Ctx) (w : World) (Q : LExit → AFr → zb → Prop) : Exit → Act → World → Prop :=
 fun e a' w' => ∃ le fr' H' c', Q le fr' H' ∧ oD le = e ∧ Step c w c' w' ∧ Inv base c' H' w' ∧ Sim n c' fr' a' ∧ a'.defers = ds
theorem LQ.step {ds : List Deferred} {n : Nat} {c c1 : Ctx} {w w1 : World} {Q : LExit → AFr → zb → Prop} {e : Exit} {a' : Act} {w' : World} (s : Step c w c1 w1) (h : LQ base ds n c1 w1 Q e a' w') : LQ base ds n c w Q e a' w' := by
 obtain ⟨le, fr', H', c', q, he, s', i', m', d'⟩ := h
 exact ⟨le, fr', H', c', q, he, s.trans s', i', m', d'⟩
section
variable {gl : Nat → AVal} {n : Nat}
def zR (P : Program) (gl : Nat → AVal) (n : Nat) (pn : Bool) : Code → LCode
 | .skip => .skip
 | .region _ ops draw => if draw then (if ops.toList.any (fun o => pJ (bU P gl n o.op)) then (if (pn && (decide (0 < zt P gl n ops ops.size) && vW P gl n true ops)) = true then .regionN (zt P gl n ops ops.size) (wi P gl n true ops 0 ops.toList) else
   if vW P gl n false ops then .regionW (wi P gl n false ops 0 ops.toList) else if vW P gl n true ops then .regionN (zt P gl n ops ops.size) (wi P gl n true ops 0 ops.toList) else .bad) else if dQ P gl n ops then .regionD (ops.toList.map (zg P gl n ops)) else .bad) else .region (ops.toList.map (zg P gl n ops))
 | .seq a b => .seq (zR P gl n pn a) (zR P gl n pn b)
 | .cond c a b => .cond (zY gl n c) (zR P gl n pn a) (zR P gl n pn b)
 | .block id b => .block id (zR P gl n pn b)
 | .loop b => .loop (zR P gl n pn b)
 | .exit id => .exit id
 | .ret => .ret
 | _ => .bad
theorem qE : ∀ c : Code, zR P gl n false c = zJ P gl n c
 | .region _ ops draw => by unfold zR zJ; rfl
 | .seq a b => by simp only [zR, zJ, qE a, qE b]
 | .cond c a b => by simp only [zR, zJ, qE a, qE b]
 | .block id b => by simp only [zR, zJ, qE b]
 | .loop b => by simp only [zR, zJ, qE b]
 | .skip => rfl
 | .exit _ => rfl
 | .ret => rfl
 | .rangeFunc _ _ _ _ => rfl
 | .scope _ => rfl
 | .label _ => rfl
 | .goto _ => rfl
 | .refuse _ => rfl
theorem qP {pn : Bool} {ds : List Deferred} {T : Tab} (hm : P.follows .mixedOrders = true) (hT : TabOk P base T) (hg : qK base gl) : ∀ (code : Code) (Q : LExit → AFr → zb → Prop) (c : Ctx) (H : zb) (w : World) (fr : AFr) (a : Act),
  Inv base c H w → Sim n c fr a → a.defers = ds → vc T (zR P gl n pn code) Q fr H → code.wp P (LQ base ds n c w Q) a w
 | .skip, Q, c, H, w, fr, a, hI, hs, hd, h => wp_skip ⟨.normal, fr, H, c, h, rfl, .refl _ _, hI, hs, hd⟩
 | .region id ops draw, Q, c, H, w, fr, a, hI, hs, hd, h => by
  simp only [zR] at h
  split at h
  ·rename_i hdr
   subst hdr
   have hN : vW P gl n true ops = true → vc T (.regionN (zt P gl n ops ops.size) (wi P gl n true ops 0 ops.toList)) Q fr H → (Code.region id ops true).wp P (LQ base ds n c w Q) a w := by
    intro hok h
    simp only [vc] at h
    obtain ⟨W, h⟩ := h
    unfold vW at hok
    have hA := ti ops (T := T) (W := W) (N := H.length) ops.toList 0 (Array.replicate ops.size false) fr _ (fun x o _ hL => by rw [Array.getD_eq_getD_getElem?] at hL; rw [Array.getElem?_replicate] at hL; split at hL <;> cases hL) (by simp) (by simp) (by simpa using hok) h
    obtain ⟨c0, s0, i0⟩ := hI.keepN (zt P gl n ops ops.size)
    refine wp_region_any hm (kw ops hT hg (b := true) (c := c) (w := w) (W := W) (N := H.length) (Q := fun fr' H' => Q .normal fr' H') (fun fr' H' c' w' a' s' i' m' d' q => ⟨.normal, fr', H', c', q, rfl, s', i', m', d'⟩) _ _ fr _ c0 { w with drawn := w.drawn + 1 } a (s0.trans ((Grew.drew w).step c0)) (i0.grew (Grew.drew w)) ((hs.step s0).step ((Grew.drew w).step c0)) hd ?_)
    simpa using hA
   split at h
   ·split at h
    ·rename_i hpn
     simp only [Bool.and_eq_true] at hpn
     exact hN hpn.2.2 h
    split at h
    ·rename_i hok
     simp only [vc] at h
     obtain ⟨W, h⟩ := h
     unfold vW at hok
     have h' := s7 (dm ops ops.toList 0) h
     have hA := ti ops (T := T) (W := W) (N := H.length) ops.toList 0 (Array.replicate ops.size false) fr H (fun x o _ hL => by rw [Array.getD_eq_getD_getElem?] at hL; rw [Array.getElem?_replicate] at hL; split at hL <;> cases hL) (by simp) (by simp) (by simpa using hok) h'
     refine wp_region_any hm (kw ops hT hg (b := false) (c := c) (w := w) (W := W) (N := H.length) (Q := fun fr' H' => Q .normal fr' H') (fun fr' H' c' w' a' s' i' m' d' q => ⟨.normal, fr', H', c', q, rfl, s', i', m', d'⟩) _ _ fr H c { w with drawn := w.drawn + 1 } a ((Grew.drew w).step c) (hI.grew (Grew.drew w)) (hs.step ((Grew.drew w).step c)) hd ?_)
     simpa using hA
    split at h
    case isFalse => exact absurd h (fun h => by simp [vc] at h)
    rename_i hok
    exact hN hok h
   split at h
   ·rename_i hok
    simp only [vc] at h
    unfold dQ at hok
    have hA := iU ops (T := T) (H := H) ops.toList 0 (Array.replicate ops.size false) fr (by simp) (by simpa using hok) h
    refine wp_region_any hm (u1 ops hT hg (c := c) (w := w) (Q := fun fr' => Q .normal fr' H) (fun fr' c' w' a' s' i' m' d' q => ⟨.normal, fr', H, c', q, rfl, s', i', m', d'⟩) _ _ fr c { w with drawn := w.drawn + 1 } a ((Grew.drew w).step c) (hI.grew (Grew.drew w)) (hs.step ((Grew.drew w).step c)) hd ?_)
    simpa using hA
   ·exact absurd h (fun h => by simp [vc] at h)
  ·rename_i hdr
   have hdraw : draw = false := by simpa using hdr
   subst hdraw
   simp only [vc] at h
   cases he : ce T (ops.toList.map (zg P gl n ops)) fr H with
   | none => rw [he] at h; exact h.elim
   | some r =>
    obtain ⟨fr', H'⟩ := r
    rw [he] at h
    refine wp_region ?_
    have := mV hT hg ops (LQ base ds n c w Q) ops.toList 0 (by simp) c H w fr a fr' H' hI hs he (fun c' w' a' s' i' m' d' => ⟨.normal, fr', H', c', h, rfl, s', i', m', d'.trans hd⟩)
    rw [List.range_eq_range']
    simpa using this
 | .seq x y, Q, c, H, w, fr, a, hI, hs, hd, h => by
  simp only [zR, vc] at h
  refine wp_seq (wp_mono (qP hm hT hg x _ c H w fr a hI hs hd h) fun e a' w' hq => ?_)
  obtain ⟨le, fr', H', c', q, he, s', i', m', d'⟩ := hq
  subst he
  cases le with
  | normal => exact wp_mono (qP hm hT hg y Q c' H' w' fr' a' i' m' d' q) fun e a2 w2 hq2 => hq2.step s'
  | exit id => exact ⟨.exit id, fr', H', c', q, rfl, s', i', m', d'⟩
  | ret => exact ⟨.ret, fr', H', c', q, rfl, s', i', m', d'⟩
 | .cond cc x y, Q, c, H, w, fr, a, hI, hs, hd, h => by
  simp only [zR, vc] at h
  have rc := sx hg hs hI.base cc
  split at h
  case h_3 => exact h.elim
  case h_2 =>
   rename_i hc
   rw [hc] at rc
   have hv : ∃ t, a.eval cc = .bool t := by
    generalize a.eval cc = v at rc
    cases rc with | anyb t => exact ⟨t, rfl⟩
   obtain ⟨t, hv⟩ := hv
   refine wp_cond hv ?_
   cases t with
   | true => simp only [if_true]; exact qP hm hT hg x Q c H w fr a hI hs hd h.1
   | false => simp only [Bool.false_eq_true, if_false]; exact qP hm hT hg y Q c H w fr a hI hs hd h.2
  rename_i t hc
  rw [hc] at rc
  have hv : a.eval cc = .bool t := by
   generalize a.eval cc = v at rc
   cases rc with | p _ _ rc => cases rc; rfl
  refine wp_cond hv ?_
  cases t with
  | true => simp only [if_true] at h ⊢; exact qP hm hT hg x Q c H w fr a hI hs hd h
  | false => simp only [Bool.false_eq_true, if_false] at h ⊢; exact qP hm hT hg y Q c H w fr a hI hs hd h
 | .block id x, Q, c, H, w, fr, a, hI, hs, hd, h => by
  simp only [zR, vc] at h
  refine wp_block (wp_mono (qP hm hT hg x _ c H w fr a hI hs hd h) fun e a' w' hq => ?_)
  obtain ⟨le, fr', H', c', q, he, s', i', m', d'⟩ := hq
  subst he
  cases le with
  | normal => exact ⟨.normal, fr', H', c', q, rfl, s', i', m', d'⟩
  | exit j =>
   simp only [kv] at q
   simp only [oD, Exit.inBlock]
   split at q
   ·rename_i hj; rw [if_pos hj]; exact ⟨.normal, fr', H', c', q, rfl, s', i', m', d'⟩
   ·rename_i hj; rw [if_neg hj]; exact ⟨.exit j, fr', H', c', q, rfl, s', i', m', d'⟩
  | ret => exact ⟨.ret, fr', H', c', q, rfl, s', i', m', d'⟩
 | .loop x, Q, c, H, w, fr, a, hI, hs, hd, h => by
  simp only [zR, vc] at h
  obtain ⟨I, μ, h0, hround⟩ := h
  refine wp_loop_ghost (fun m a' w' => ∃ fr' H' c', I fr' H' ∧ μ fr' H' = m ∧ Step c w c' w' ∧ Inv base c' H' w' ∧ Sim n c' fr' a' ∧ a'.defers = ds) (μ fr H) ⟨fr, H, c, h0, rfl, .refl _ _, hI, hs, hd⟩ ?_
  rintro m a1 w1 ⟨fr1, H1, c1, hI1, rfl, s1, i1, m1, d1⟩
  refine wp_mono (qP hm hT hg x _ c1 H1 w1 fr1 a1 i1 m1 d1 (hround fr1 H1 hI1)) fun e a' w' hq => ?_
  obtain ⟨le, fr', H', c', q, he, s', i', m', d'⟩ := hq
  subst he
  cases le with
  | normal => exact ⟨μ fr' H', q.2, fr', H', c', q.1, rfl, s1.trans s', i', m', d'⟩
  | exit id => exact ⟨.exit id, fr', H', c', q, rfl, s1.trans s', i', m', d'⟩
  | ret => exact ⟨.ret, fr', H', c', q, rfl, s1.trans s', i', m', d'⟩
 | .exit id, Q, c, H, w, fr, a, hI, hs, hd, h => wp_exit ⟨.exit id, fr, H, c, h, rfl, .refl _ _, hI, hs, hd⟩
 | .ret, Q, c, H, w, fr, a, hI, hs, hd, h => wp_ret ⟨.ret, fr, H, c, h, rfl, .refl _ _, hI, hs, hd⟩
 | .rangeFunc .., Q, c, H, w, fr, a, hI, hs, hd, h => absurd h (fun h => by simp [zR, vc] at h)
 | .scope _, Q, c, H, w, fr, a, hI, hs, hd, h => absurd h (fun h => by simp [zR, vc] at h)
 | .label _, Q, c, H, w, fr, a, hI, hs, hd, h => absurd h (fun h => by simp [zR, vc] at h)
 | .goto _, Q, c, H, w, fr, a, hI, hs, hd, h => absurd h (fun h => by simp [zR, vc] at h)
 | .refuse _, Q, c, H, w, fr, a, hI, hs, hd, h => absurd h (fun h => by simp [zR, vc] at h)
theorem dU {ds : List Deferred} {T : Tab} (hm : P.follows .mixedOrders = true) (hT : TabOk P base T) (hg : qK base gl) : ∀ (code : Code) (Q : LExit → AFr → zb → Prop) (c : Ctx) (H : zb) (w : World) (fr : AFr) (a : Act),
  Inv base c H w → Sim n c fr a → a.defers = ds → vc T (zJ P gl n code) Q fr H → code.wp P (LQ base ds n c w Q) a w := by
 intro code Q c H w fr a hI hs hd h
 rw [← qE] at h
 exact qP hm hT hg code Q c H w fr a hI hs hd h
end
end Go.Abs

namespace Go.Abs
variable {P : Program} {base : Prot}
def Fits (x : PVal) : Prop := ∃ pr v, PRep pr x v
theorem Fits.lst {es : List PVal} (h : Fits (.lst es)) : es.length ≤ maxLen ∧ ∀ e ∈ es, ∀ c ∈ e.cells, Fits c := by
 obtain ⟨pr, v, h⟩ := h
 cases h with
 | lst _ a len cap size blk off vals hl hc hm ha hs hp hr hk =>
  refine ⟨by omega, fun e he c hc => ?_⟩
  obtain ⟨i, hi, rfl⟩ := List.getElem_of_mem he
  obtain ⟨j, hj, rfl⟩ := List.getElem_of_mem hc
  exact ⟨pr, _, hr i es[i] j es[i].cells[j] (by simp) (by simp)⟩
theorem Fits.str {s : List UInt8} (h : Fits (.str s)) : s.length ≤ maxLen := by
 obtain ⟨pr, v, h⟩ := h
 cases h; assumption
theorem Fits.agg {l : List PVal} (h : Fits (.agg l)) : ∀ c ∈ l, Fits c := by
 obtain ⟨pr, v, h⟩ := h
 cases h with
 | agg _ vs hl hr hk =>
  intro c hc
  obtain ⟨j, hj, rfl⟩ := List.getElem_of_mem hc
  have hj' : j < vs.length := by omega
  exact ⟨pr, vs[j], hr j l[j] vs[j] (by simp) (by simp [hj'])⟩
section
variable {gl : Nat → AVal}
def dI (a : Act) : ResultVar → Sem Value
 | .tmp t => pure (a.tmps.getD t undef)
 | .cell b t => do loadVar t (← asAddr (a.tmps.getD b undef))
theorem dM {c : Ctx} {H : zb} {w : World} {n : Nat} {T : Tab} {fr : AFr} {a : Act} (hI : Inv base c H w) (hs : Sim n c fr a) : ∀ (rv : List ResultVar) (rs : List LRes) (xs : List AVal), zP (jV P n) rv = some rs → zP (qT T fr H) rs = some xs →
  ∃ vs : List Value, (rv.mapM (dI a)).run P w = Result.ok vs w ∧ RepL c xs vs
 | [], rs, xs, h1, h2 => by
  simp [zP] at h1; subst h1; simp [zP] at h2; subst h2
  exact ⟨[], by simp, .nil c⟩
 | r :: rv, rs, xs, h1, h2 => by
  simp only [zP] at h1
  cases hr : jV P n r with
  | none => rw [hr] at h1; cases h1
  | some lr =>
   cases hm : zP (jV P n) rv with
   | none => rw [hr, hm] at h1; cases h1
   | some rs' =>
    rw [hr, hm] at h1; cases h1
    simp only [zP] at h2
    cases hx : qT T fr H lr with
    | none => rw [hx] at h2; cases h2
    | some x =>
     cases hm2 : zP (qT T fr H) rs' with
     | none => rw [hx, hm2] at h2; cases h2
     | some xs' =>
      rw [hx, hm2] at h2; cases h2
      obtain ⟨vs, q1, q2⟩ := dM hI hs rv rs' xs' hm hm2
      have one : ∃ v, (dI a r).run P w = .ok v w ∧ Rep c x v := by
       cases r with
       | tmp t =>
        simp only [jV] at hr
        split at hr
        case isFalse => cases hr
        rename_i ht
        cases hr
        simp only [qT] at hx
        cases hx
        exact ⟨_, rfl, hs.2 t ht⟩
       | cell b t =>
        simp only [jV] at hr
        split at hr
        case isFalse => cases hr
        rename_i ht
        obtain ⟨hb, ht⟩ := ht
        cases hr
        obtain ⟨d, hd⟩ := Option.isSome_iff_exists.1 ht
        simp only [qT] at hx
        cases hl : zn T (.load (zh P t) (qY P t) (.tmp b)) fr H with
        | none => rw [hl] at hx; cases hx
        | some r =>
         obtain ⟨x', H'⟩ := r
         rw [hl] at hx
         cases hx
         have hrep : Rep c (opd fr (.tmp b)) (a.tmps.getD b undef) := hs.2 b hb
         obtain ⟨v, h1, _, h2⟩ := aU hI hd hrep hl
         refine ⟨v, ?_, h2⟩
         unfold dI
         have : ∃ ad, a.tmps.getD b undef = .pointer (some ad) := by
          generalize a.tmps.getD b undef = va at h1
          cases va <;> simp [Instr.loadAt, Instr.sureAddr] at h1
          rename_i ad
          cases ad with
          | none => simp at h1
          | some ad => exact ⟨ad, rfl⟩
         obtain ⟨ad, hva⟩ := this
         rw [hva] at h1
         simp only [hva]
         simpa [Instr.loadAt, Instr.sureAddr, asAddr] using h1
      obtain ⟨v, h1, h2⟩ := one
      exact ⟨v :: vs, by simp [List.mapM_cons, h1, q1], .cons h2 q2⟩
def jI (T : Tab) (rs : List LRes) (Q : AVal → zb → Prop) : LExit → AFr → zb → Prop
 | .exit _, _, _ => False
 | _, fr, H => match finish T rs fr H with | some r => Q r H | none => False
def wZ (P : Program) (gl : Nat → AVal) (pn : Bool) (f : FuncId) : Option LFunc := match P.funcs[f]? with
 | some fn => if ju P f then match fn.body with
  | some code => match zP (jV P fn.ntmps) fn.results.toList with
   | some rs => some ⟨fn.ntmps, rs, zR P gl fn.ntmps pn code⟩
   | none => none
  | none => none
  else none
 | none => none
theorem sK (f : FuncId) : wZ P gl false f = zf P gl f := by
 unfold wZ zf
 simp only [qE]
 rfl
theorem mf {pn : Bool} {T : Tab} (hm : P.follows .mixedOrders = true) (hT : TabOk P base T) (hg : qK base gl) {f : FuncId} {lf : LFunc} (hl : wZ P gl pn f = some lf) {args : List AVal} (hn : args.length ≤ lf.n) {H : zb} {Q : AVal → zb → Prop}
  {c : Ctx} {w : World} {vs : List Value} (hI : Inv base c H w) (hr : RepL c args vs)
  (h : (∀ x ∈ args, ∀ y, x = .p y → Fits y) → vc T lf.body (jI T lf.results Q) (zV args) H) :
  Calls P f vs.toArray w fun e w' => ∃ v r H' c', e = .returned v ∧ Q r H' ∧ Step c w c' w' ∧ Inv base c' H' w' ∧ Rep c' r v := by
 unfold wZ at hl
 cases hf : P.funcs[f]? with
 | none => rw [hf] at hl; cases hl
 | some fn =>
  rw [hf] at hl
  simp only at hl
  split at hl
  case isFalse => cases hl
  cases hb : fn.body with
  | none => rw [hb] at hl; cases hl
  | some code =>
   rw [hb] at hl
   simp only at hl
   cases hrs : zP (jV P fn.ntmps) fn.results.toList with
   | none => rw [hrs] at hl; cases hl
   | some rs =>
    rw [hrs] at hl; cases hl
    simp only at hn h
    have hlen : vs.length = args.length := hr.1
    have hfit : ∀ x ∈ args, ∀ y, x = .p y → Fits y := fun x hx y hy => by
     subst hy
     obtain ⟨j, hj, hxj⟩ := List.getElem_of_mem hx
     have := hr.2 j (.p y) (vs[j]'(by omega)) (by rw [List.getElem?_eq_getElem hj, hxj]) (by simp [hlen, hj])
     cases this with
     | p _ _ hp => exact ⟨_, _, hp⟩
    have hs : Sim fn.ntmps c (zV args) { tmps := vs.toArray ++ Array.replicate (fn.ntmps - vs.toArray.size) undef, defers := [] } := by
     refine ⟨by simp; omega, fun i hi => ?_⟩
     unfold zV
     by_cases hia : i < args.length
     ·have hiv : i < vs.length := by omega
      have : (vs.toArray ++ Array.replicate (fn.ntmps - vs.toArray.size) undef).getD i undef = vs[i] := by
       rw [Array.getD_eq_getD_getElem?, Array.getElem?_append_left (by simpa using hiv)]
       simp [hiv]
      rw [this, List.getElem?_eq_getElem hia]
      exact hr.2 i _ _ (by simp [hia]) (by simp [hiv])
     ·have : (vs.toArray ++ Array.replicate (fn.ntmps - vs.toArray.size) undef).getD i undef = undef := by
       rw [Array.getD_eq_getD_getElem?, Array.getElem?_append_right (by simp; omega), Array.getElem?_replicate]
       split <;> rfl
      rw [this, List.getElem?_eq_none (by omega)]
      exact .p _ _ (.tup [] [] rfl (by simp))
    refine calls_of_wp hf hb (wp_mono (qP hm hT hg code _ c H w _ _ hI hs rfl (h hfit)) fun e a' w' hq => ?_)
    obtain ⟨le, fr', H2, c', q, he, s', i', m', d'⟩ := hq
    have fin : (match finish T rs fr' H2 with | some r => Q r H2 | none => False) → a'.defers = [] ∧ ∃ v, (results fn a'.tmps).run P w' = .ok v w' ∧ ∃ v' r H' c', Ending.returned v = .returned v' ∧ Q r H' ∧ Step c w c' w' ∧ Inv base c' H' w' ∧ Rep c' r v' := by
     intro hq0
     cases hfin : finish T rs fr' H2 with
     | none => rw [hfin] at hq0; exact hq0.elim
     | some r =>
     rw [hfin] at hq0
     simp only at hq0
     unfold finish at hfin
     cases hxs : zP (qT T fr' H2) rs with
     | none => rw [hxs] at hfin; cases hfin
     | some xs =>
      rw [hxs] at hfin
      obtain ⟨us, q1, q2⟩ := dM i' m' fn.results.toList rs xs hrs hxs
      have hres : (results fn a'.tmps).run P w' = .ok (if h : us.toArray.size = 1 then us.toArray[0] else .tuple us.toArray) w' := by
       unfold results
       have : (fn.results.mapM (dI a')).run P w' = .ok us.toArray w' := by
        rw [Array.mapM_eq_mapM_toList]
        simp [q1]
       show ((fn.results.mapM (dI a')) >>= _).run P w' = _
       rw [Sem.run_bind, this]
       rfl
      refine ⟨d', _, hres, _, r, H2, c', rfl, hq0, s', i', ?_⟩
      have hus := q2.1
      match xs, us, q2, hus, hfin with
      | [x], [u], q2, _, hfin => cases hfin; simpa using q2.2 0 _ u rfl rfl
      | [], [], q2, _, hfin => simp [j3] at hfin; subst hfin; exact .p _ _ (.tup [] [] rfl (by simp))
      | x :: y :: xs, u :: v :: us, q2, _, hfin =>
       have : ¬ (u :: v :: us).toArray.size = 1 := by simp
       rw [dif_neg this]
       simp only at hfin
       cases hps : j3 (x :: y :: xs) with
       | none => rw [hps] at hfin; cases hfin; exact .tup _ _ q2.1 q2.2
       | some ps =>
        rw [hps] at hfin
        cases hfin
        rw [jG hps] at q2
        refine .p _ _ (.tup ps _ (by have := q2.1; simpa using this) (fun j a b h1 h2 => ?_))
        have := q2.2 j (.p a) b (by simp [h1]) h2
        cases this with
        | p _ _ h => exact h
    subst he
    cases le with
    | normal => exact fin q
    | exit id => exact q.elim
    | ret => exact fin q
theorem vO {T : Tab} (hm : P.follows .mixedOrders = true) (hT : TabOk P base T) (hg : qK base gl) {f : FuncId} {lf : LFunc} (hl : zf P gl f = some lf) {args : List AVal} (hn : args.length ≤ lf.n) {H : zb} {Q : AVal → zb → Prop}
  {c : Ctx} {w : World} {vs : List Value} (hI : Inv base c H w) (hr : RepL c args vs)
  (h : (∀ x ∈ args, ∀ y, x = .p y → Fits y) → vc T lf.body (jI T lf.results Q) (zV args) H) :
  Calls P f vs.toArray w fun e w' => ∃ v r H' c', e = .returned v ∧ Q r H' ∧ Step c w c' w' ∧ Inv base c' H' w' ∧ Rep c' r v :=
 mf hm hT hg (pn := false) (by rw [sK]; exact hl) hn hI hr h
end
end Go.Abs

namespace Go.Abs
variable {P : Program} {base : Prot}
def zG (P : Program) (base : Prot) (f : FuncId) (s : List PVal → Option (AVal × zb)) : Prop :=
 ju P f = true ∧ ∀ args r E, s args = some (r, E) → Spec P base f (args.map .p) [] r E
def Tab.none : Tab := ⟨fun _ _ => .none, fun _ _ _ => .none, fun _ _ => .none⟩
theorem Tab.none_ok : TabOk P base Tab.none where
 fn := fun f args r E h => by simp [Tab.none] at h
 mu := fun f args H r H' h => by simp [Tab.none] at h
 ex := fun f ps x h => by simp [Tab.none] at h
def Tab.with (T : Tab) (f : FuncId) (s : List PVal → Option (AVal × zb)) : Tab :=
 ⟨fun g args => if g = f then s args else T.fn g args, T.mu, T.ex⟩
theorem Tab.with_ok {T : Tab} (hT : TabOk P base T) {f : FuncId} {s : List PVal → Option (AVal × zb)} (h : zG P base f s) : TabOk P base (T.with f s) where
 fn := fun g args r E hf => by
  unfold Tab.with at hf
  simp only at hf
  split at hf
  case isTrue e => subst e; exact ⟨h.1, h.2 args r E hf⟩
  case isFalse => exact hT.fn g args r E hf
 mu := hT.mu
 ex := hT.ex
def Tab.ext (T : Tab) (f : FuncId) (s : List PVal → Option PVal) : Tab :=
 ⟨T.fn, T.mu, fun g args => if g = f then s args else T.ex g args⟩
theorem Tab.ext_ok {T : Tab} (hT : TabOk P base T) {f : FuncId} {s : List PVal → Option PVal} (h : ∀ ps x, s ps = some x → xZ P f ps x) : TabOk P base (T.ext f s) where
 fn := hT.fn
 mu := hT.mu
 ex := fun g ps x hf => by
  unfold Tab.ext at hf
  simp only at hf
  split at hf
  case isTrue e => subst e; exact h ps x hf
  case isFalse => exact hT.ex g ps x hf
def bq (P : Program) (base : Prot) (f : FuncId) (m : List AVal → zb → Option (AVal × zb)) : Prop :=
 ju P f = true ∧ ∀ args H r H', m args H = some (r, H') → Spec P base f args H r H'
def Tab.own (T : Tab) (f : FuncId) (m : List AVal → zb → Option (AVal × zb)) : Tab :=
 ⟨T.fn, fun g args H => if g = f then m args H else T.mu g args H, T.ex⟩
theorem Tab.own_ok {T : Tab} (hT : TabOk P base T) {f : FuncId} {m : List AVal → zb → Option (AVal × zb)} (h : bq P base f m) : TabOk P base (T.own f m) where
 fn := hT.fn
 mu := fun g args H r H' hf => by
  unfold Tab.own at hf
  simp only at hf
  split at hf
  case isTrue e => subst e; exact ⟨h.1, h.2 args H r H' hf⟩
  case isFalse => exact hT.mu g args H r H' hf
 ex := hT.ex
theorem qB {gl : Nat → AVal} {f : FuncId} {lf : LFunc} (h : zf P gl f = some lf) : ju P f = true := by
 unfold zf at h
 split at h
 ·split at h
  ·assumption
  ·cases h
 ·cases h
theorem let_go {c c' : Ctx} {w w' : World} {H' : zb} {r : AVal} {v : Value} {x : PVal} (h0 : c.locs = []) (s : Step c w c' w') (i : Inv base c' H' w') (hr : Rep c' r v) (hx : zj H' fuel r = some x) :
  ∃ c1, Step c w c1 w' ∧ Inv base c1 [] w' ∧ Rep c1 (.p x) v := by
 obtain ⟨c2, e2, s2, i2, p2⟩ := i.freezeL (zi H' fuel r)
 have same := jQ (zi H' fuel r) H'
 have hp : PRep c2.prot x v := by
  rw [jT same] at hx
  refine uy i2 fuel r v x (hr.step s2) hx (fun k hk => ?_)
  rw [← uj same] at hk
  exact (p2 k hk).step rfl (fun _ _ _ h => h) (fun e he => kI _ H' k e he)
   (fun e l g cap a b d hm o ho => i.cell_at a (by rw [← e2]; exact b) d hm o ho)
 have st := s.trans s2
 refine ⟨⟨[], c2.prot⟩, ⟨st.prot, fun k l hl => ?_, st.os, st.tape, st.output, st.size, st.blk, fun b hb => ?_, st.newprot⟩, ⟨i2.base, rfl, i2.prot, fun k e l h => by simp at h, fun k k' l l' g cp cp' h => by simp at h⟩, .p _ _ hp⟩
 ·rw [h0] at hl; simp at hl
 ·obtain ⟨k, l, cap, hl, _⟩ := hb
  simp at hl
theorem sS {pn : Bool} {gl : Nat → AVal} {f : FuncId} {lf : LFunc} (h : wZ P gl pn f = some lf) : ju P f = true := by
 unfold wZ at h
 split at h
 ·split at h
  ·assumption
  ·cases h
 ·cases h
theorem bM {pn : Bool} {gl : Nat → AVal} {T : Tab} (hm : P.follows .mixedOrders = true) (hT : TabOk P base T) (hg : qK base gl) {f : FuncId} {lf : LFunc} (hl : wZ P gl pn f = some lf) {s : List PVal → Option PVal}
  (h : ∀ args x, s args = some x → (∀ y ∈ args, Fits y) → args.length ≤ lf.n ∧ vc T lf.body (oH T lf.results x) (zV (args.map .p)) []) : zG P base f (za s) := by
 refine ⟨sS hl, fun args r E hs c w vs hI hr => ?_⟩
 unfold za at hs
 cases hx : s args with
 | none => rw [hx] at hs; cases hs
 | some x =>
  rw [hx] at hs
  cases hs
  have hfit : ∀ y ∈ args, Fits y := fun y hy => by
   obtain ⟨j, hj, rfl⟩ := List.getElem_of_mem hy
   have hlen := hr.1
   simp only [List.length_map] at hlen
   have := hr.2 j (.p args[j]) (vs[j]'(by omega)) (by simp) (by simp [hlen, hj])
   cases this with
   | p _ _ hp => exact ⟨_, _, hp⟩
  have h0 : c.locs = [] := List.length_eq_zero_iff.1 (by rw [hI.len]; rfl)
  obtain ⟨hn, hv⟩ := h args x hx hfit
  have eQ : oH T lf.results x = jI T lf.results fun r H => zj H fuel r = some x := by
   funext e fr H
   cases e <;> simp only [oH, jI, gY] <;> (cases finish T lf.results fr H <;> simp)
  rw [eQ] at hv
  refine (mf hm hT hg hl (by simpa using hn) hI hr (fun _ => hv)).mono fun e w' ⟨v, r, H', c', he, hq, st, i', rp⟩ => ?_
  obtain ⟨c1, s1, i1, r1⟩ := let_go h0 st i' rp hq
  exact ⟨v, c1, he, s1, i1, r1⟩
theorem zd {gl : Nat → AVal} {T : Tab} (hm : P.follows .mixedOrders = true) (hT : TabOk P base T) (hg : qK base gl) {f : FuncId} {lf : LFunc} (hl : zf P gl f = some lf) {s : List PVal → Option PVal}
  (h : ∀ args x, s args = some x → (∀ y ∈ args, Fits y) → args.length ≤ lf.n ∧ vc T lf.body (oH T lf.results x) (zV (args.map .p)) []) : zG P base f (za s) := by
 refine ⟨qB hl, fun args r E hs c w vs hI hr => ?_⟩
 unfold za at hs
 cases hx : s args with
 | none => rw [hx] at hs; cases hs
 | some x =>
  rw [hx] at hs
  cases hs
  have hfit : ∀ y ∈ args, Fits y := fun y hy => by
   obtain ⟨j, hj, rfl⟩ := List.getElem_of_mem hy
   have hlen := hr.1
   simp only [List.length_map] at hlen
   have := hr.2 j (.p args[j]) (vs[j]'(by omega)) (by simp) (by simp [hlen, hj])
   cases this with
   | p _ _ hp => exact ⟨_, _, hp⟩
  have h0 : c.locs = [] := List.length_eq_zero_iff.1 (by rw [hI.len]; rfl)
  obtain ⟨hn, hv⟩ := h args x hx hfit
  have eQ : oH T lf.results x = jI T lf.results fun r H => zj H fuel r = some x := by
   funext e fr H
   cases e <;> simp only [oH, jI, gY] <;> (cases finish T lf.results fr H <;> simp)
  rw [eQ] at hv
  refine (vO hm hT hg hl (by simpa using hn) hI hr (fun _ => hv)).mono fun e w' ⟨v, r, H', c', he, hq, st, i', rp⟩ => ?_
  obtain ⟨c1, s1, i1, r1⟩ := let_go h0 st i' rp hq
  exact ⟨v, c1, he, s1, i1, r1⟩
theorem ze : qK base (fun _ => .junk) := fun _ _ _ => .junk _
theorem mU {gl : Nat → AVal} {T : Tab} (hm : P.follows .mixedOrders = true) (hT : TabOk P base T) (hg : qK base gl) {f : FuncId} {lf : LFunc} (hl : zf P gl f = some lf) {m : List AVal → zb → Option (AVal × zb)}
  (h : ∀ args H r H', m args H = some (r, H') → (∀ x ∈ args, ∀ y, x = .p y → Fits y) → args.length ≤ lf.n ∧ vc T lf.body (jI T lf.results fun r2 H2 => r2 = r ∧ H2 = H') (zV args) H) : bq P base f m := by
 refine ⟨qB hl, fun args H r H' hs c w vs hI hr => ?_⟩
 have hfit : ∀ x ∈ args, ∀ y, x = .p y → Fits y := fun x hx y hy => by
  subst hy
  obtain ⟨j, hj, hxj⟩ := List.getElem_of_mem hx
  have hlen := hr.1
  have := hr.2 j (.p y) (vs[j]'(by omega)) (by rw [List.getElem?_eq_getElem hj, hxj]) (by simp [hlen, hj])
  cases this with
  | p _ _ hp => exact ⟨_, _, hp⟩
 obtain ⟨hn, hv⟩ := h args H r H' hs hfit
 refine (vO hm hT hg hl hn hI hr (fun _ => hv)).mono fun e w' ⟨v, r2, H2, c', he, hq, st, i', rp⟩ => ?_
 obtain ⟨rfl, rfl⟩ := hq
 exact ⟨v, c', he, st, i', rp⟩
end Go.Abs

namespace Go.Abs
abbrev Oa (d : Nat) (x : LOp) : LOper := ⟨some d, none, x⟩
abbrev Ob (x : LOp) : LOper := ⟨none, none, x⟩
abbrev Oc (d s : Nat) (x : LOp) : LOper := ⟨some d, some (s, true), x⟩
abbrev Od (d s : Nat) (x : LOp) : LOper := ⟨some d, some (s, false), x⟩
abbrev Oe (s : Nat) (w : Bool) (x : LOp) : LOper := ⟨none, some (s, w), x⟩
abbrev Tm (n : Nat) : LOpd := .tmp n
abbrev Kz (k : Int) : LOpd := .cst (.p (.int .i64 k))
abbrev Kt : LOpd := .cst (.p (.bool true))
abbrev Kg : LOpd := .cst (.p (.bool false))
abbrev Om (d s : Nat) : LOper := ⟨some d, none, .mov (.tmp s)⟩
abbrev Oj (d g s : Nat) : LOper := ⟨some d, some (g, true), .mov (.tmp s)⟩
abbrev Oo (d g s : Nat) : LOper := ⟨some d, some (g, false), .mov (.tmp s)⟩
abbrev Ox (d s i : Nat) : LOper := ⟨some d, none, .ext (.tmp s) i⟩
abbrev Oq (d n : Nat) (a : Bool) (s : Nat) : LOper := ⟨some d, none, .load n a (.tmp s)⟩
abbrev Oz (d o s : Nat) : LOper := ⟨some d, none, .fadr o (.tmp s)⟩
abbrev Oy (n a s : Nat) : LOper := ⟨none, none, .store n (.tmp a) (.tmp s)⟩
abbrev Ot (d g s : Nat) : LOper := ⟨some d, none, .pick (.tmp g) (.tmp s) (.cst (.p (.bool false)))⟩
abbrev Ou (d g s : Nat) : LOper := ⟨some d, none, .pick (.tmp g) (.cst (.p (.bool true))) (.tmp s)⟩
abbrev Zr : AVal := .agg [.p (.bool false),.tight [],.tight []]
abbrev Zp : AVal := .agg [.tight [],.p (.bool false),.tight [],.tight []]
abbrev Za : AVal := .agg [.p (.int .i64 0),.tight [],.p (.bool false),.tight [],.tight [],.p (.int .i64 0),.p (.int .i64 0)]
abbrev Zl : AVal := .agg [.p (.int .i64 0),.tight [],.p (.bool false),.tight [],.tight [],.p (.int .i64 0),.p (.int .i64 0),.p (.bool false)]
def stepD (k : Nat) (l : LOper) : List (Oper × LOper) → Bool
 | [] => true
 | p :: r => ((p.1.after.any fun e => Region.binds .any e && e.on == k) || kQ l p.2) && stepD k l r
def nZ : Nat → List (Oper × LOper) → Bool
 | _, [] => true
 | k, p :: r => (p.1.after.all fun e => !Region.binds .any e || decide (e.on < k)) && stepD k p.2 r && nZ (k + 1) r
section
variable (P : Program) (gl : Nat → AVal) (n : Nat)
def wL : Code → LCode
 | .skip => .skip
 | .region _ ops draw => if draw then (if ops.toList.any (fun o => pJ (bU P gl n o.op)) then (if vW P gl n false ops then .regionW (wi P gl n false ops 0 ops.toList) else if vW P gl n true ops then .regionN (zt P gl n ops ops.size) (wi P gl n true ops 0 ops.toList) else .bad)
   else if nZ 0 (ops.toList.map fun o => (o, zg P gl n ops o)) then .regionD (ops.toList.map (zg P gl n ops)) else if dQ P gl n ops then .regionD (ops.toList.map (zg P gl n ops)) else .bad) else .region (ops.toList.map (zg P gl n ops))
 | .seq a b => .seq (wL a) (wL b)
 | .cond c a b => .cond (zY gl n c) (wL a) (wL b)
 | .block id b => .block id (wL b)
 | .loop b => .loop (wL b)
 | .exit id => .exit id
 | .ret => .ret
 | _ => .bad
theorem eG {k : Nat} {l : LOper} : ∀ {r : List (Oper × LOper)}, stepD k l r = true → ∀ p ∈ r, ((p.1.after.any fun e => Region.binds .any e && e.on == k) || kQ l p.2) = true
 | [], _, q, hq => by simp at hq
 | p :: r, h, q, hq => by
  simp only [stepD, Bool.and_eq_true] at h
  rcases List.mem_cons.1 hq with rfl | hq
  ·exact h.1
  ·exact eG h.2 q hq
theorem sN (ops : Array Oper) : ∀ (m k : Nat) (listed : Array Bool), k + m = ops.size → listed.size = ops.size → (∀ j, j < ops.size → listed.getD j true = decide (j < k)) →
  (∀ j, listed.getD j false = true ↔ j < k ∧ j < ops.size) →
  nZ k ((ops.toList.drop k).map fun o => (o, zg P gl n ops o)) = true → nS P gl n ops m k listed = true
 | 0, k, listed, hk, hs, ht, hf, _ => by
  unfold nS
  rw [List.isEmpty_iff]
  unfold Region.ready
  rw [List.filter_eq_nil_iff]
  intro i hi
  have hi' : i < ops.size := List.mem_range.1 hi
  rw [ht i hi', decide_eq_true (by omega)]
  simp
 | m + 1, k, listed, hk, hs, ht, hf, h => by
  have hkl : k < ops.size := by omega
  have hkl' : k < ops.toList.length := by simpa using hkl
  rw [List.drop_eq_getElem_cons hkl', List.map_cons] at h
  simp only [nZ, Bool.and_eq_true] at h
  obtain ⟨⟨h1, h2⟩, h3⟩ := h
  have hok : ops[k]? = some ops[k] := Array.getElem?_eq_getElem hkl
  unfold nS
  simp only [Bool.and_eq_true]
  refine ⟨⟨?_, ?_⟩, sN ops m (k + 1) _ (by omega) (by simpa using hs) (fun j hj => ?_) (fun j => ?_) h3⟩
  ·rw [List.contains_iff_mem]
   unfold Region.ready
   rw [List.mem_filter]
   refine ⟨List.mem_range.2 hkl, ?_⟩
   rw [ht k hkl, decide_eq_false (by omega), hok]
   simp only [Bool.not_false, Option.map_some, Option.getD_some, Bool.true_and]
   rw [Array.all_eq_true'] at h1 ⊢
   intro e he
   have := h1 e (by simpa using he)
   cases hb : Region.binds .any e with
   | false => rfl
   | true =>
    rw [hb] at this
    simp only [Bool.not_true, Bool.false_or, decide_eq_true_eq] at this ⊢
    exact (hf e.on).2 ⟨this, by omega⟩
  ·unfold oz
   rw [List.all_eq_true]
   intro j hj
   have hj' : j < ops.size := List.mem_range.1 hj
   rw [ht j hj']
   by_cases hjk : j = k
   ·simp [hjk]
   ·by_cases hlt : j < k
    ·simp [hlt]
    ·have hoj : ops[j]? = some ops[j] := Array.getElem?_eq_getElem hj'
     have hm : (ops[j], zg P gl n ops ops[j]) ∈ (ops.toList.drop (k + 1)).map fun o => (o, zg P gl n ops o) := by
      refine List.mem_map.2 ⟨ops[j], ?_, rfl⟩
      rw [List.mem_iff_getElem?]
      refine ⟨j - (k + 1), ?_⟩
      rw [List.getElem?_drop, show k + 1 + (j - (k + 1)) = j by omega, Array.getElem?_toList]
      exact hoj
     have := eG h2 _ hm
     simp only [Bool.or_eq_true] at this
     rw [hoj, hok]
     simp only [Option.map_some, Option.getD_some, Bool.or_eq_true]
     rcases this with h | h
     ·exact .inl (.inr h)
     ·exact .inr (by simpa using h)
  ·rw [Array.getD_eq_getD_getElem?, Array.getElem?_setIfInBounds]
   by_cases hjk : k = j
   ·subst hjk
    rw [if_pos rfl, if_pos (by omega)]
    simp
   ·rw [if_neg hjk, ← Array.getD_eq_getD_getElem?, ht j hj]
    exact decide_eq_decide.2 (by omega)
  ·rw [Array.getD_eq_getD_getElem?, Array.getElem?_setIfInBounds]
   by_cases hjk : k = j
   ·subst hjk
    rw [if_pos rfl, if_pos (by omega)]
    simp; omega
   ·rw [if_neg hjk, ← Array.getD_eq_getD_getElem?, hf j]
    omega
theorem pk (ops : Array Oper) (h : nZ 0 (ops.toList.map fun o => (o, zg P gl n ops o)) = true) : dQ P gl n ops = true := by
 unfold dQ
 refine sN P gl n ops ops.size 0 _ (by omega) (by simp) (fun j hj => ?_) (fun j => ?_) h
 ·simp [Array.getD_eq_getD_getElem?, hj]
 ·rw [Array.getD_eq_getD_getElem?, Array.getElem?_replicate]
  split <;> simp
theorem vI : ∀ c : Code, wL P gl n c = zJ P gl n c
 | .region _ ops draw => by
  unfold wL zJ
  by_cases h : nZ 0 (ops.toList.map fun o => (o, zg P gl n ops o)) = true
  ·rw [if_pos h, if_pos (pk P gl n ops h)]
  ·rw [if_neg h]
 | .seq a b => by simp only [wL, zJ, vI a, vI b]
 | .cond c a b => by simp only [wL, zJ, vI a, vI b]
 | .block id b => by simp only [wL, zJ, vI b]
 | .loop b => by simp only [wL, zJ, vI b]
 | .skip => rfl
 | .exit _ => rfl
 | .ret => rfl
 | .rangeFunc _ _ _ _ => rfl
 | .scope _ => rfl
 | .label _ => rfl
 | .goto _ => rfl
 | .refuse _ => rfl
end
section
variable (P : Program) (gl : Nat → AVal) (n : Nat)
def qS : Code → LCode
 | .skip => .skip
 | .region _ ops draw => if draw then (if ops.toList.any (fun o => pJ (bU P gl n o.op)) then (if (decide (0 < zt P gl n ops ops.size) && vW P gl n true ops) = true then .regionN (zt P gl n ops ops.size) (wi P gl n true ops 0 ops.toList) else
   if vW P gl n false ops then .regionW (wi P gl n false ops 0 ops.toList) else if vW P gl n true ops then .regionN (zt P gl n ops ops.size) (wi P gl n true ops 0 ops.toList) else .bad)
   else if nZ 0 (ops.toList.map fun o => (o, zg P gl n ops o)) then .regionD (ops.toList.map (zg P gl n ops)) else if dQ P gl n ops then .regionD (ops.toList.map (zg P gl n ops)) else .bad) else .region (ops.toList.map (zg P gl n ops))
 | .seq a b => .seq (qS a) (qS b)
 | .cond c a b => .cond (zY gl n c) (qS a) (qS b)
 | .block id b => .block id (qS b)
 | .loop b => .loop (qS b)
 | .exit id => .exit id
 | .ret => .ret
 | _ => .bad
theorem wV : ∀ c : Code, qS P gl n c = zR P gl n true c
 | .region _ ops draw => by
  unfold qS zR
  by_cases h : nZ 0 (ops.toList.map fun o => (o, zg P gl n ops o)) = true
  ·rw [if_pos h, if_pos (pk P gl n ops h)]; rfl
  ·rw [if_neg h]; rfl
 | .seq a b => by simp only [qS, zR, wV a, wV b]
 | .cond c a b => by simp only [qS, zR, wV a, wV b]
 | .block id b => by simp only [qS, zR, wV b]
 | .loop b => by simp only [qS, zR, wV b]
 | .skip => rfl
 | .exit _ => rfl
 | .ret => rfl
 | .rangeFunc _ _ _ _ => rfl
 | .scope _ => rfl
 | .label _ => rfl
 | .goto _ => rfl
 | .refuse _ => rfl
end
variable {P : Program} {gl : Nat → AVal}
def xE (P : Program) (gl : Nat → AVal) (f : FuncId) : Option LFunc := match P.funcs[f]? with
 | some fn => if ju P f then match fn.body with
  | some code => match zP (jV P fn.ntmps) fn.results.toList with
   | some rs => some ⟨fn.ntmps, rs, qS P gl fn.ntmps code⟩
   | none => none
  | none => none
  else none
 | none => none
theorem lowN {f : FuncId} {lf : LFunc} (h : xE P gl f = some lf) : wZ P gl true f = some lf := by
 rw [← h]
 unfold wZ xE
 simp only [wV]
 all_goals rfl
def aT (P : Program) (gl : Nat → AVal) (f : FuncId) : Option LFunc := match P.funcs[f]? with
 | some fn => if ju P f then match fn.body with
  | some code => match zP (jV P fn.ntmps) fn.results.toList with
   | some rs => some ⟨fn.ntmps, rs, wL P gl fn.ntmps code⟩
   | none => none
  | none => none
  else none
 | none => none
theorem lowF {f : FuncId} {lf : LFunc} (h : aT P gl f = some lf) : zf P gl f = some lf := by
 rw [← h]
 unfold zf aT
 simp only [vI]
 rfl
end Go.Abs
