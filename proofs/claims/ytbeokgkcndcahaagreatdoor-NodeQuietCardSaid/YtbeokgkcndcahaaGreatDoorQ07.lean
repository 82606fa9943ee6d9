/-
  Slices that grow, that are made, that are copied.
  Literals, parts of slices and strings, conversions, and what looks at temporaries alone.
  Structs, arrays and slices that are written down, and slices that are made.
  Comparisons of pointers, functions and truth values.
  Which kind of operation comes next: so that a walk need not try all rules.
-/
import Derived.Test.YtbeokgkcndcahaaGreatDoorQ06
import Derived.Laws.Append
import Derived.Laws.AppendOwn
import Derived.Laws.Build
import Derived.Laws.MakeOwn
set_option linter.all false
namespace Go.SX

section row
variable {α : Type} {s : Sl} {T : TypeId} {wd : Nat} {enc : α → List Ch} {l : List α} {h : Hp}
/-- All cells of a list's elements. -/
def rowOf (enc : α → List Ch) (l : List α) : List Value := l.flatMap fun x => flat (enc x)
theorem rowOf_cons (x : α) : rowOf enc (x :: l) = flat (enc x) ++ rowOf enc l := by simp [rowOf]
theorem rowOf_append (a b : List α) : rowOf enc (a ++ b) = rowOf enc a ++ rowOf enc b := by simp [rowOf]
theorem rowOf_length (hw : ∀ x, x ∈ l → flatW (enc x) = wd) : (rowOf enc l).length = l.length * wd := by
  induction l with
  | nil => simp [rowOf]
  | cons x l ih =>
    rw [rowOf_cons, List.length_append, flat_length, hw x List.mem_cons_self, ih fun y hy => hw y (List.mem_cons_of_mem _ hy)]
    simp [Nat.add_mul]; omega
theorem row_of_elems {cs : Array Value} : ∀ {l : List α} {o : Nat}, (∀ x, x ∈ l → flatW (enc x) = wd) →
    (∀ (i : Nat) (x : α), l[i]? = some x → ∀ (j : Nat) (v : Value), (flat (enc x))[j]? = some v → cs[o + i * wd + j]? = some v) → ∀ (k : Nat) (v : Value), (rowOf enc l)[k]? = some v → cs[o + k]? = some v
  | [], o, _, _, k, v, hk => by simp [rowOf] at hk
  | x :: l, o, hw, he, k, v, hk => by
    have hx : (flat (enc x)).length = wd := by rw [flat_length, hw x List.mem_cons_self]
    rw [rowOf_cons] at hk
    by_cases hlt : k < wd
    · rw [List.getElem?_append_left (by omega)] at hk
      have := he 0 x rfl k v hk
      simpa using this
    · rw [List.getElem?_append_right (by omega), hx] at hk
      have := row_of_elems (o := o + wd) (fun y hy => hw y (List.mem_cons_of_mem _ hy)) (fun i y hy j u hu => by
        have := he (i + 1) y (by simpa using hy) j u hu
        rw [← this]; congr 1; rw [Nat.add_mul]; omega) (k - wd) v hk
      rw [← this]; congr 1; omega
theorem elems_of_row {cs : Array Value} : ∀ {l : List α} {o : Nat}, (∀ x, x ∈ l → flatW (enc x) = wd) → (∀ (k : Nat) (v : Value), (rowOf enc l)[k]? = some v → cs[o + k]? = some v) →
    ∀ (i : Nat) (x : α), l[i]? = some x → ∀ (j : Nat) (v : Value), (flat (enc x))[j]? = some v → cs[o + i * wd + j]? = some v
  | [], o, _, _, i, x, hx => by simp at hx
  | y :: l, o, hw, hr, i, x, hx => by
    have hy : (flat (enc y)).length = wd := by rw [flat_length, hw y List.mem_cons_self]
    intro j v hj
    cases i with
    | zero =>
      simp only [List.getElem?_cons_zero, Option.some.injEq] at hx
      subst hx
      have := hr j v (by rw [rowOf_cons, List.getElem?_append_left (List.getElem?_eq_some_iff.1 hj).1]; exact hj)
      simpa using this
    | succ i =>
      have := elems_of_row (o := o + wd) (fun z hz => hw z (List.mem_cons_of_mem _ hz)) (fun k u hk => by
        have := hr (wd + k) u (by rw [rowOf_cons, List.getElem?_append_right (by omega), hy, Nat.add_sub_cancel_left]; exact hk)
        rw [← this]; congr 1; omega) i x (by simpa using hx) j v hj
      rw [← this]; congr 1; rw [Nat.add_mul]; omega
/-- A slice's cells, one behind the other. -/
theorem VecAt.row (v : VecAt s T wd enc l h) : (s = ⟨none, 0, 0⟩ ∧ l = []) ∨ ∃ b o cs, s = ⟨some ⟨b, o, none⟩, l.length, s.c⟩ ∧ l.length ≤ s.c ∧ h b = some (.cells cs T (0, 0)) ∧ o + s.c * wd ≤ cs.size ∧
    (∀ x, x ∈ l → flatW (enc x) = wd) ∧ ∀ (k : Nat) (v : Value), (rowOf enc l)[k]? = some v → cs[o + k]? = some v := by
  rcases v with ⟨h1, h2, h3, h4⟩ | ⟨b, o, cs, h1, h2, h3, h4, h5, h6, h7⟩
  · left; cases s; simp_all
  · right; refine ⟨b, o, cs, ?_, by omega, h4, h5, h6, row_of_elems h6 h7⟩
    cases s; simp_all
theorem VecAt.ofRow {b o c : Nat} {cs : Array Value} (hb : h b = some (.cells cs T (0, 0))) (hc : l.length ≤ c) (hs : o + c * wd ≤ cs.size) (hw : ∀ x, x ∈ l → flatW (enc x) = wd)
    (hr : ∀ (k : Nat) (v : Value), (rowOf enc l)[k]? = some v → cs[o + k]? = some v) : VecAt ⟨some ⟨b, o, none⟩, l.length, c⟩ T wd enc l h :=
  .inr ⟨b, o, cs, rfl, rfl, hc, hb, hs, hw, elems_of_row hw hr⟩
/-- Are all cells those of one cell? -/
theorem oneRow (hw : ∀ x, x ∈ l → oneCh (enc x) = true) : ∀ v ∈ rowOf enc l, v.oneCell' = true := by
  intro v hv
  obtain ⟨x, hx, hv⟩ := List.mem_flatMap.1 hv
  exact oneCh_spec (hw x hx) v hv
end row
theorem vw_cell {w : World} {b j : Nat} {X : Array Value} {T : TypeId} {fz : Nat × Nat} {v : Value} (hb : vw w b = some (.cells X T fz)) (hv : X[j]? = some v) : w.cell? ⟨b, j, none⟩ = some v := by
  unfold vw at hb; simp [World.cell?, hb, hv]
theorem vw_alloc (w : World) (o : Obj) : vw (w.alloc o) = fun k => if k = w.heap.size then some o else vw w k := vw_push w o
section run
variable {P : Program} [Tab P] {t e : TypeId} {te ti : TInf} {α : Type} {s sx : Sl} {T2 : TypeId} {enc : α → List Ch} {l lx : List α}
theorem tab_info (he : Tab.ti P e = some te) (hz : te.zero ≠ []) : ∃ i z, P.info? e = some i ∧ i.zero = some z ∧ i.size = te.size ∧ i.bytes = te.bytes ∧ z.cells = (flat te.zero).toArray := by
  obtain ⟨x, hx, h1, h2, h3⟩ := (Tab.ok e te he).info
  obtain ⟨z, hz1, hz2, _⟩ := h3 hz
  exact ⟨x, z, hx, hz1, h2, h1, hz2⟩
/-- What append comes to: the slice as it was, its row with more in it, or a new row. -/
theorem run_append_vec {w : World} (ht : P.underlying t = some (.slice e)) (he : Tab.ti P e = some te) (hz : te.zero ≠ []) (hzs : flatW te.zero = te.size)
    (hs : VecAt s e te.size enc l (vw w)) (hx : VecRd sx T2 te.size enc lx (vw w)) (h1 : ∀ x, x ∈ lx → oneCh (enc x) = true)
    (hbytes : (l.length + lx.length) * te.bytes ≤ 140737488355328) (hpos : 0 < te.bytes) (ty : TypeId) :
    ∃ (s' : Sl) (w' : World), (Builtin.append_ #[t, t] ty #[s.v, sx.v]).run P w = .ok s'.v w' ∧ w'.os = w.os ∧ w'.output = w.output ∧
      ((s' = s ∧ lx = [] ∧ vw w' = vw w) ∨
       (∃ b o cs cs', s.p = some ⟨b, o, none⟩ ∧ vw w b = some (.cells cs e (0, 0)) ∧ vw w' = put (vw w) b (.cells cs' e (0, 0)) ∧ ∀ h : Hp, h b = some (.cells cs' e (0, 0)) → VecAt s' e te.size enc (l ++ lx) h) ∨
       (∃ cs', vw w' = (fun k => if k = w.heap.size then some (.cells cs' e (0, 0)) else vw w k) ∧ ∀ h : Hp, h w.heap.size = some (.cells cs' e (0, 0)) → VecAt s' e te.size enc (l ++ lx) h)) := by
  obtain ⟨i, z, hi, hzz, hisz, hiby, hzc⟩ := tab_info he hz
  have hlen : l.length + lx.length ≤ 140737488355328 := Nat.le_trans (Nat.le_mul_of_pos_right _ hpos) hbytes
  rcases hx with ⟨hn0, rfl⟩ | ⟨hU, hun, hx⟩
  · -- a slice of nothing
    refine ⟨s, w, ?_, rfl, rfl, .inl ⟨rfl, rfl, rfl⟩⟩
    have hn : s.n ≤ s.c := by
      rcases hs with ⟨_, h2, h3, _⟩ | ⟨_, _, _, _, _, h3, _⟩
      · omega
      · exact h3
    cases s with
    | mk p n c =>
      cases sx with
      | mk p2 n2 c2 =>
        simp only at hn0
        subst hn0
        cases p2 with
        | none =>
          have hf0 := run_firstCells_none (P := P) (w := w) i.size 0 0 c2
          cases p <;> simp [Builtin.append_, run_underlying ht, sizeOf, typeInfo, hi, Builtin.lenOf, Sl.v, hf0, storeCells, show n ≤ c from hn]
        | some a2 =>
          have hf0 := run_firstCells_some (P := P) (w := w) i.size 0 a2 0 c2 [] (by simp) (fun j v h => by simp at h)
          cases p <;> simp [Builtin.append_, run_underlying ht, sizeOf, typeInfo, hi, Builtin.lenOf, Sl.v, hf0, storeCells, show n ≤ c from hn]
  rcases hx.row with ⟨rfl, rfl⟩ | ⟨b2, o2, cs2, e2, k2, g2, z2, w2, r2⟩
  · -- nothing is appended
    refine ⟨s, w, ?_, rfl, rfl, .inl ⟨rfl, rfl, rfl⟩⟩
    have hn : s.n ≤ s.c := by
      rcases hs with ⟨_, h2, h3, _⟩ | ⟨_, _, _, _, _, h3, _⟩
      · omega
      · exact h3
    cases s with
    | mk p n c =>
      have hf0 := run_firstCells_none (P := P) (w := w) i.size 0 0 0
      cases p <;> simp [Builtin.append_, run_underlying ht, sizeOf, typeInfo, hi, Builtin.lenOf, Sl.v, hf0, storeCells, show n ≤ c from hn]
  · obtain ⟨_, fz2, g2⟩ := hun _ _ _ g2
    have hcx : ∀ (j : Nat) (v : Value), (rowOf enc lx)[j]? = some v → w.cell? ((⟨b2, o2, none⟩ : Addr).add j) = some v := fun j v hv => by
      rw [Addr.add_plain]; exact vw_cell g2 (r2 j v hv)
    have hlx := rowOf_length w2
    have hf := run_firstCells_some (P := P) w te.size lx.length ⟨b2, o2, none⟩ lx.length sx.c (rowOf enc lx) hlx hcx
    have hfd := run_firstCells_some (P := P) w.drew te.size lx.length ⟨b2, o2, none⟩ lx.length sx.c (rowOf enc lx) hlx (fun j v hv => by simpa using hcx j v hv)
    have hone := oneRow h1
    rcases hs.row with ⟨rfl, rfl⟩ | ⟨b, o, cs, e1, k1, g1, z1, w1, r1⟩
    · -- nil
      by_cases h0 : lx = []
      · subst h0
        refine ⟨⟨none, 0, 0⟩, w, ?_, rfl, rfl, .inl ⟨rfl, rfl, rfl⟩⟩
        rw [e2]
        simp only [List.length_nil] at hf
        simp [Builtin.append_, run_underlying ht, sizeOf, typeInfo, hi, Builtin.lenOf, hisz, hf]
      · have hpos' : 0 < lx.length := List.length_pos_iff.2 h0
        have hr := run_append_nil (w := w) t ty e i z ht hi hzz ⟨b2, o2, none⟩ lx.length sx.c (rowOf enc lx) (by rw [hisz]; exact hlx) hcx hpos' (by omega) (by rw [hiby]; exact Nat.le_trans (Nat.le_trans (Nat.mul_le_mul_right _ (Nat.le_add_left _ _)) hbytes) (by decide))
        refine ⟨⟨some ⟨w.heap.size, 0, none⟩, lx.length, grownCap w lx.length 0 e⟩, w.drew.alloc _, by rw [e2]; exact hr, rfl, rfl, .inr (.inr ⟨_, vw_alloc _ _, fun h hb => ?_⟩)⟩
        simp only [List.nil_append]
        refine VecAt.ofRow hb (grownCap_ge w _ _ _) ?_ w2 fun k v hv => ?_
        · have hge := grownCap_ge w lx.length 0 e
          simp only [Nat.zero_add, Array.size_append, List.size_toArray, hlx, size_zeroCells, hzc, flat_length, hzs]
          rw [← Nat.add_mul]
          refine Nat.mul_le_mul_right _ ?_
          omega
        · have hlt := (List.getElem?_eq_some_iff.1 hv).1
          rw [Nat.zero_add, Array.getElem?_append_left (by simpa using hlt)]
          simpa using hv
    · have hco : ∀ (j : Nat) (v : Value), (rowOf enc l)[j]? = some v → w.cell? ((⟨b, o, none⟩ : Addr).add j) = some v := fun j v hv => by
        rw [Addr.add_plain]; exact vw_cell g1 (r1 j v hv)
      have hl := rowOf_length w1
      have hwall : ∀ x, x ∈ l ++ lx → flatW (enc x) = te.size := fun x hx => (List.mem_append.1 hx).elim (w1 x) (w2 x)
      by_cases hroom : l.length + lx.length ≤ s.c
      · -- room
        have hfit : o + l.length * te.size + (rowOf enc lx).length ≤ cs.size := by
          rw [hlx, Nat.add_assoc, ← Nat.add_mul]
          exact Nat.le_trans (Nat.add_le_add_left (Nat.mul_le_mul_right _ hroom) _) z1
        have hst := run_storeCells_at P b (o + l.length * te.size) e (rowOf enc lx) 0 cs w (by exact g1) (by simpa using hfit) hone
        refine ⟨⟨some ⟨b, o, none⟩, (l ++ lx).length, s.c⟩, w.setRow b (spliceA cs (o + l.length * te.size) (rowOf enc lx)), ?_, rfl, rfl, .inr (.inl ⟨b, o, cs, _, by rw [e1], g1, vw_setRow g1, fun h hb => ?_⟩)⟩
        · rw [e2, e1]
          simp only [Nat.add_zero] at hst
          simp [Builtin.append_, run_underlying ht, sizeOf, typeInfo, hi, hisz, Builtin.lenOf, hroom, hf, Addr.add_plain, hst, spliceA]
        · refine VecAt.ofRow hb (by simpa using hroom) (by rw [spliceA_size hfit]; exact z1) hwall fun k v hv => ?_
          rw [rowOf_append] at hv
          by_cases hk : k < (rowOf enc l).length
          · rw [List.getElem?_append_left hk] at hv
            rw [spliceA_out hfit (.inl (by omega))]
            exact r1 k v hv
          · rw [List.getElem?_append_right (by omega)] at hv
            have hlt := (List.getElem?_eq_some_iff.1 hv).1
            rw [show o + k = o + l.length * te.size + (k - (rowOf enc l).length) by omega, spliceA_in hfit hlt]
            exact hv
      · have hr := run_append_grow (w := w) t ty e i z ht hi hzz ⟨b, o, none⟩ l.length s.c (rowOf enc l) (by rw [hisz]; exact hl) hco ⟨b2, o2, none⟩ lx.length sx.c (rowOf enc lx) (by rw [hisz]; exact hlx) hcx
          (by omega) (by omega) (growslice_fits (by omega) (by rw [hiby]; exact hbytes))
        refine ⟨⟨some ⟨w.heap.size, 0, none⟩, (l ++ lx).length, grownCap w (l.length + lx.length) s.c e⟩, w.drew.alloc _, by rw [e2, e1, List.length_append]; exact hr, rfl, rfl, .inr (.inr ⟨_, vw_alloc _ _, fun h hb => ?_⟩)⟩
        have hge := grownCap_ge w (l.length + lx.length) s.c e
        refine VecAt.ofRow hb (by simpa using hge) ?_ hwall fun k v hv => ?_
        · simp only [Nat.zero_add, Array.size_append, List.size_toArray, hlx, hl, size_zeroCells, hzc, flat_length, hzs]
          rw [← Nat.add_mul, ← Nat.add_mul]
          exact Nat.mul_le_mul_right _ (by omega)
        · have hlt := (List.getElem?_eq_some_iff.1 hv).1
          rw [Nat.zero_add, Array.getElem?_append_left (by simpa [rowOf_append] using hlt)]
          simpa [rowOf_append] using hv
end run
section
variable {P : Program} [Tab P] {N : Nat} {cx : Cx P N} {K : Hp} {ds : List Deferred} {k : List Item} {env : Env} {mem : List Ent} {rg : Rg} {H : List HE} {R : List (Nat × Oper)} {i : Nat} {o : Oper}
variable {α : Type} {T T2 eT : TypeId} {enc : α → List Ch} {l lx : List α} {r : List Ent} {te ti : TInf}
/-- **append**, of a slice whose array is its own. -/
theorem sxo_append {x y : Operand} {p p2 : Option Addr} {n c n2 c2 wd : Nat} {z0 : Ch} {zs : List Ch} (ho : o.op = .call { callee := .builtin .append, args := #[x, y], argTypes := #[T, T] }) (hg : guardE rg.ops o env = some true)
    (hx : ev env x = some (.s (.o (.slice p n c)))) (hy : ev env y = some (.s (.o (.slice p2 n2 c2)))) (ht : Tab.ti P T = some ti) (hd : ti.d = .slice eT) (he : Tab.ti P eT = some te) (hz : te.zero = z0 :: zs) (hzs : flatW te.zero = te.size) (hwd : te.size = wd)
    (hb : Pick mem (.vec ⟨p, n, c⟩ eT wd enc l) r) (hv : Reads K r ⟨p2, n2, c2⟩ T2 wd enc lx) (h1 : ∀ x, oneCh (enc x) = true) (hpos : Nat.blt 0 te.bytes = true) (hdst : dstOk N o.dst = true) (hl : rg.lt P i = false)
    (hbytes : (l.length + lx.length) * te.bytes ≤ 140737488355328)
    (h : ∀ p' n' c', SXo cx K ds rg H R k (setE env o.dst (.s (.o (.slice p' n' c')))) (.vec ⟨p', n', c'⟩ eT wd enc (l ++ lx) :: r)) (hH : ∀ p' n' c', ∀ x ∈ H, rg.fr P x.idx i = true → x.chk (.vec ⟨p', n', c'⟩ eT wd enc (l ++ lx) :: r) := by intro _ _ _; repeat (first | exact hh_nil | refine hh_free rfl ?_ | refine hh_chk ⟨_, _, _, (by first | exact .head | exact .tail .head | exact .tail (.tail .head) | exact .tail (.tail (.tail .head)) | exact .tail (.tail (.tail (.tail .head)))), (by rfl)⟩ ?_ | refine hh_chk trivial ?_)) :
    SXo cx K ds rg H ((i, o) :: R) k env mem :=
  sxo_act hl hg (by rw [ho]; rfl) fun a w s => by
    subst hwd
    have hm := MSat.pick hb s.mem
    obtain ⟨s', w', hrun, hos, hout, hc⟩ := run_append_vec (P := P) (tab_slice ht hd) he (by rw [hz]; simp) hzs hm.vec (hv.at_ hm.drop) (fun x _ => h1 x) hbytes (Nat.le_of_ble_eq_true hpos) o.type
    have hex : (execOp a.eval o).run P w = .ok (.value s'.v) w' := by
      simp only [Sl.v] at hrun
      simp [execOp, ho, resolve, invoke, builtin, s.env.eval hx, s.env.eval hy, hrun]
    unfold OW
    rw [hex]
    obtain ⟨p', n', c'⟩ := s'
    refine ⟨_, _, _, ⟨by rw [Act.put_def]; exact s.ds, by rw [Act.put_size]; exact s.size, s.env.put s.size hdst (.s (.o (.slice p' n' c'))), ?_, hos.trans s.os, hout.trans s.out⟩, hH p' n' c', h p' n' c'⟩
    rcases hc with ⟨e1, rfl, e3⟩ | ⟨b, o1, cs, cs', e1, e2, e3, e4⟩ | ⟨cs', e1, e2⟩
    · rw [e3, e1, List.append_nil]; exact hm
    · rw [e3]
      refine hm.turn (fun h1 hv1 => ?_) (fun h1 _ _ => e4 _ (put_self _ _ _))
      rcases hv1 with ⟨q, _⟩ | ⟨b', o', cs0, q, _, _, q2, _⟩
      · have q3 := q.symm.trans e1; cases q3
      · have q3 := q.symm.trans e1; cases q3; simp [q2]
    · rw [e1]
      exact hm.drop.new (vw_size w) (e2 _ (one_self _ _))
/-- ... of a nil slice. -/
theorem sxo_append0 {x y : Operand} {p2 : Option Addr} {n2 c2 wd : Nat} {z0 : Ch} {zs : List Ch} (enc : α → List Ch) (ho : o.op = .call { callee := .builtin .append, args := #[x, y], argTypes := #[T, T] }) (hg : guardE rg.ops o env = some true)
    (hx : ev env x = some (.s (.o (.slice none 0 0)))) (hy : ev env y = some (.s (.o (.slice p2 n2 c2)))) (ht : Tab.ti P T = some ti) (hd : ti.d = .slice eT) (he : Tab.ti P eT = some te) (hz : te.zero = z0 :: zs) (hzs : flatW te.zero = te.size) (hwd : te.size = wd)
    (hv : Reads K mem ⟨p2, n2, c2⟩ T2 wd enc lx) (h1 : ∀ x, oneCh (enc x) = true) (hpos : Nat.blt 0 te.bytes = true) (hdst : dstOk N o.dst = true) (hl : rg.lt P i = false)
    (hbytes : lx.length * te.bytes ≤ 140737488355328)
    (h : ∀ p' n' c', SXo cx K ds rg H R k (setE env o.dst (.s (.o (.slice p' n' c')))) (.vec ⟨p', n', c'⟩ eT wd enc lx :: mem)) (hH : ∀ p' n' c', ∀ x ∈ H, rg.fr P x.idx i = true → x.chk (.vec ⟨p', n', c'⟩ eT wd enc lx :: mem) := by intro _ _ _; repeat (first | exact hh_nil | refine hh_free rfl ?_ | refine hh_chk ⟨_, _, _, (by first | exact .head | exact .tail .head | exact .tail (.tail .head) | exact .tail (.tail (.tail .head)) | exact .tail (.tail (.tail (.tail .head)))), (by rfl)⟩ ?_ | refine hh_chk trivial ?_)) :
    SXo cx K ds rg H ((i, o) :: R) k env mem :=
  sxo_note (e := .vec ⟨none, 0, 0⟩ eT wd enc []) (.inl ⟨rfl, rfl, rfl, rfl⟩) (sxo_append ho hg hx hy ht hd he hz hzs hwd .head hv h1 hpos hdst hl (by simpa using hbytes) h hH)
/-- What a zero slice reads as. -/
theorem sxo_nilVec {α : Type} (enc : α → List Ch) (T : TypeId) (wd : Nat) (h : SXo cx K ds rg H R k env (.vec ⟨none, 0, 0⟩ T wd enc [] :: mem)) : SXo cx K ds rg H R k env mem :=
  sxo_note (e := .vec ⟨none, 0, 0⟩ T wd enc []) (.inl ⟨rfl, rfl, rfl, rfl⟩) h
theorem sx_nilVec {α : Type} (enc : α → List Ch) (T : TypeId) (wd : Nat) (h : SX cx K ds k env (.vec ⟨none, 0, 0⟩ T wd enc [] :: mem)) : SX cx K ds k env mem := fun a w s =>
  h a w ⟨s.ds, s.size, s.env, s.mem.note (e := .vec ⟨none, 0, 0⟩ T wd enc []) (.inl ⟨rfl, rfl, rfl, rfl⟩), s.os, s.out⟩
end
end Go.SX

namespace Go.SX

section
variable {P : Program} [Tab P] {N : Nat} {cx : Cx P N} {K : Hp} {ds : List Deferred} {k : List Item} {env : Env} {mem : List Ent} {rg : Rg} {H : List HE} {R : List (Nat × Oper)} {i : Nat} {o : Oper}
variable {α : Type} {T T0 T2 eT : TypeId} {enc : α → List Ch} {l lx : List α} {r : List Ent} {te ti : TInf} {wd : Nat}
theorem VecRd.cap {s : Sl} {h : Hp} (v : VecRd s T wd enc l h) : s.n ≤ s.c := by
  rcases v with ⟨h1, _⟩ | ⟨_, _, v⟩
  · omega
  rcases v with ⟨_, h2, h3, _⟩ | ⟨_, _, _, _, _, h3, _⟩
  · omega
  · exact h3
/-- What yields the same in all worlds. -/
theorem sxo_any {v : SV} (hg : guardE rg.ops o env = some true) (hp : plainOp o.op = true) (hd : dstOk N o.dst = true) (hr : ∀ a, ESat env a → ∀ w, (execOp a.eval o).run P w = .ok (.value v.val) w)
    (hH : ∀ x ∈ H, rg.fr P x.idx i = true → x.chk mem) (h : SXo cx K ds rg H R k (setE env o.dst v) mem) : SXo cx K ds rg H ((i, o) :: R) k env mem :=
  sxo_val (pu := True) (chk := fun _ => False) hg hp hd (fun a w s => hr a s.env w) (.pure trivial) (fun _ => hr) (fun _ h => h.elim) hH h
/-- An entry may be told otherwise. -/
theorem sxo_recast {e : Ent} (e' : Ent) (hp : Pick mem e r) (hi : ∀ h, e.den h → e'.den h) (h : SXo cx K ds rg H R k env (e' :: r)) : SXo cx K ds rg H R k env mem := fun hR a w Hs s hH =>
  h hR a w Hs ⟨s.ds, s.size, s.env, by
    obtain ⟨h1, h2, d, d1, d2, s1, s2, sK, he, hr⟩ := (MSat.pick hp s.mem).head
    exact MSat.mk d d1 d2 s1 s2 sK (hi _ he) hr, s.os, s.out⟩ hH
theorem sx_recast {e : Ent} (e' : Ent) (hp : Pick mem e r) (hi : ∀ h, e.den h → e'.den h) (h : SX cx K ds k env (e' :: r)) : SX cx K ds k env mem := fun a w s =>
  h a w ⟨s.ds, s.size, s.env, by
    obtain ⟨h1, h2, d, d1, d2, s1, s2, sK, he, hr⟩ := (MSat.pick hp s.mem).head
    exact MSat.mk d d1 d2 s1 s2 sK (hi _ he) hr, s.os, s.out⟩
/-! ### Blocks as slices -/
theorem blk_vec {b : Nat} {cs : List Ch} {n : Nat} {h : Hp} (hb : (Ent.blk b T cs).den h) (hcs : cs = l.flatMap enc) (hn : n = l.length) (hw : ∀ x, x ∈ l → flatW (enc x) = wd) : VecAt ⟨some ⟨b, 0, none⟩, n, n⟩ T wd enc l h := by
  subst hn
  have e : ∀ l : List α, flat (l.flatMap enc) = rowOf enc l := by
    intro l
    induction l with
    | nil => rfl
    | cons x l ih => rw [List.flatMap_cons, flat_append, ih, rowOf_cons]
  refine VecAt.ofRow (cs := (flat cs).toArray) hb (Nat.le_refl _) ?_ hw fun k v hv => ?_
  · rw [hcs, e, List.size_toArray, rowOf_length hw]; omega
  · rw [hcs, e, Nat.zero_add]; simpa using hv
theorem Reads.blk {b : Nat} {cs : List Ch} {n : Nat} (hb : Pick mem (.blk b T cs) r) (hcs : cs = l.flatMap enc) (hn : n = l.length) (hw : ∀ x, x ∈ l → flatW (enc x) = wd) : Reads K mem ⟨some ⟨b, 0, none⟩, n, n⟩ T wd enc l := fun _ hm => by
  obtain ⟨h1, _, _, _, _, s1, _, _, he, _⟩ := (MSat.pick hb hm).head
  exact ((blk_vec he hcs hn hw).mono s1).rd
/-- One element alone. -/
theorem Reads.one {b : Nat} {cs : List Ch} {x : α} (hb : Pick mem (.blk b T cs) r) (hcs : cs = enc x) (hw : flatW (enc x) = wd) : Reads K mem ⟨some ⟨b, 0, none⟩, 1, 1⟩ T wd enc [x] :=
  Reads.blk hb (by simp [hcs]) rfl (by simpa using hw)

/-! ### What looks at temporaries alone -/
/-- A conversion between kinds of integers. -/
theorem sxo_conv {S D : TypeId} {x : Operand} {n : Int} {ks kd ks' : IntKind} {ti tj : TInf} (ho : o.op = .convert S D x) (hg : guardE rg.ops o env = some true) (hx : ev env x = some (.s (.o (.int ks' n))))
    (hs : Tab.ti P S = some ti) (hsd : ti.d = .int ks) (hd : Tab.ti P D = some tj) (hdd : tj.d = .int kd) (hdst : dstOk N o.dst = true)
    (h : SXo cx K ds rg H R k (setE env o.dst (.s (.o (.int kd (kd.wrap n))))) mem) (hH : ∀ x ∈ H, rg.fr P x.idx i = true → x.chk mem := by repeat (first | exact hh_nil | refine hh_free rfl ?_ | refine hh_chk ⟨_, _, _, (by first | exact .head | exact .tail .head | exact .tail (.tail .head) | exact .tail (.tail (.tail .head)) | exact .tail (.tail (.tail (.tail .head)))), (by rfl)⟩ ?_ | refine hh_chk trivial ?_)) : SXo cx K ds rg H ((i, o) :: R) k env mem :=
  sxo_any (v := .s (.o (.int kd (kd.wrap n)))) hg (by rw [ho]; rfl) hdst (fun a he w => by
    have h1 : P.underlying S = some (.int ks) := by have := (Tab.ok S ti hs).desc; rw [hsd] at this; exact this
    have h2 : P.underlying D = some (.int kd) := by have := (Tab.ok D tj hd).desc; rw [hdd] at this; exact this
    have e1 : (underlying S).run P w = .ok (.int ks) w := run_underlying h1 w
    have e2 : (underlying D).run P w = .ok (.int kd) w := run_underlying h2 w
    simp [execOp, ho, he.eval hx, convert, e1, e2, Conv.intToInt]) hH h
/-- ... that changes nothing. -/
theorem sxo_convI {S D : TypeId} {x : Operand} {n : Int} {ks kd ks' : IntKind} {ti tj : TInf} (ho : o.op = .convert S D x) (hg : guardE rg.ops o env = some true) (hx : ev env x = some (.s (.o (.int ks' n))))
    (hs : Tab.ti P S = some ti) (hsd : ti.d = .int ks) (hd : Tab.ti P D = some tj) (hdd : tj.d = .int kd) (hdst : dstOk N o.dst = true) (hn : kd.wrap n = n)
    (h : SXo cx K ds rg H R k (setE env o.dst (.s (.o (.int kd n)))) mem) (hH : ∀ x ∈ H, rg.fr P x.idx i = true → x.chk mem := by repeat (first | exact hh_nil | refine hh_free rfl ?_ | refine hh_chk ⟨_, _, _, (by first | exact .head | exact .tail .head | exact .tail (.tail .head) | exact .tail (.tail (.tail .head)) | exact .tail (.tail (.tail (.tail .head)))), (by rfl)⟩ ?_ | refine hh_chk trivial ?_)) : SXo cx K ds rg H ((i, o) :: R) k env mem :=
  sxo_conv ho hg hx hs hsd hd hdd hdst (by rw [hn]; exact h) hH
/-- min and max of two. -/
theorem sxo_min {x y : Operand} {ts : Array TypeId} {m n : Int} {kk : IntKind} (ho : o.op = .call { callee := .builtin .min, args := #[x, y], argTypes := ts }) (hg : guardE rg.ops o env = some true) (hx : ev env x = some (.s (.o (.int kk m)))) (hy : ev env y = some (.s (.o (.int kk n)))) (hdst : dstOk N o.dst = true)
    (h : SXo cx K ds rg H R k (setE env o.dst (.s (.o (.int kk (min m n))))) mem) (hH : ∀ x ∈ H, rg.fr P x.idx i = true → x.chk mem := by repeat (first | exact hh_nil | refine hh_free rfl ?_ | refine hh_chk ⟨_, _, _, (by first | exact .head | exact .tail .head | exact .tail (.tail .head) | exact .tail (.tail (.tail .head)) | exact .tail (.tail (.tail (.tail .head)))), (by rfl)⟩ ?_ | refine hh_chk trivial ?_)) : SXo cx K ds rg H ((i, o) :: R) k env mem :=
  sxo_any (v := .s (.o (.int kk (min m n)))) hg (by rw [ho]; rfl) hdst (fun a he w => by
    have : (if n < m then n else m) = min m n := by split <;> omega
    simp [execOp, ho, resolve, invoke, builtin, he.eval hx, he.eval hy, Builtin.min_, Builtin.min2, this]) hH h
theorem sxo_max {x y : Operand} {ts : Array TypeId} {m n : Int} {kk : IntKind} (ho : o.op = .call { callee := .builtin .max, args := #[x, y], argTypes := ts }) (hg : guardE rg.ops o env = some true) (hx : ev env x = some (.s (.o (.int kk m)))) (hy : ev env y = some (.s (.o (.int kk n)))) (hdst : dstOk N o.dst = true)
    (h : SXo cx K ds rg H R k (setE env o.dst (.s (.o (.int kk (max m n))))) mem) (hH : ∀ x ∈ H, rg.fr P x.idx i = true → x.chk mem := by repeat (first | exact hh_nil | refine hh_free rfl ?_ | refine hh_chk ⟨_, _, _, (by first | exact .head | exact .tail .head | exact .tail (.tail .head) | exact .tail (.tail (.tail .head)) | exact .tail (.tail (.tail (.tail .head)))), (by rfl)⟩ ?_ | refine hh_chk trivial ?_)) : SXo cx K ds rg H ((i, o) :: R) k env mem :=
  sxo_any (v := .s (.o (.int kk (max m n)))) hg (by rw [ho]; rfl) hdst (fun a he w => by
    have : (if m < n then n else m) = max m n := by split <;> omega
    simp [execOp, ho, resolve, invoke, builtin, he.eval hx, he.eval hy, Builtin.max_, Builtin.max2, this]) hH h
/-- A sign of a string. -/
theorem sxo_indexS {x y : Operand} {s : ByteArray} {j : Int} {ik : IntKind} (ho : o.op = .index T x y) (hg : guardE rg.ops o env = some true) (hx : ev env x = some (.s (.o (.string s)))) (hy : ev env y = some (.s (.o (.int ik j))))
    (ht : Tab.ti P T = some ti) (hd : ti.d = .str) (hj : 0 ≤ j ∧ j < s.size) (hdst : dstOk N o.dst = true)
    (h : ∀ c : UInt8, s[j.toNat]? = some c → SXo cx K ds rg H R k (setE env o.dst (.s (.o (.int .u8 c.toNat)))) mem) (hH : ∀ x ∈ H, rg.fr P x.idx i = true → x.chk mem := by repeat (first | exact hh_nil | refine hh_free rfl ?_ | refine hh_chk ⟨_, _, _, (by first | exact .head | exact .tail .head | exact .tail (.tail .head) | exact .tail (.tail (.tail .head)) | exact .tail (.tail (.tail (.tail .head)))), (by rfl)⟩ ?_ | refine hh_chk trivial ?_)) : SXo cx K ds rg H ((i, o) :: R) k env mem := by
  have hc : s[j.toNat]? = some (s[j.toNat]'(by omega)) := by
    rw [getElem?_pos]
  refine sxo_any (v := .s (.o (.int .u8 (s[j.toNat]'(by omega)).toNat))) hg (by rw [ho]; rfl) hdst (fun a he w => by
    have hu : P.underlying T = some .string := by have := (Tab.ok T ti ht).desc; rw [hd] at this; exact this
    have hrun : (underlying T).run P w = .ok .string w := run_underlying hu w
    simp [execOp, ho, he.eval hx, he.eval hy, Instr.index, asIntOf, hrun, hj.1, hc]) hH (h _ hc)
/-- A part of a string. -/
def optE (env : Env) : Option Operand → Option (Option Int)
  | none => some none
  | some x => match ev env x with
    | some (.s (.o (.int _ n))) => some (some n)
    | _ => none
theorem optE_eval {env : Env} {a : Act} (he : ESat env a) {x : Option Operand} {n : Option Int} (h : optE env x = some n) : match n with
    | none => x.map a.eval = none
    | some n => ∃ kk, x.map a.eval = some (.int kk n) := by
  unfold optE at h
  cases x with
  | none => cases h; rfl
  | some x =>
    simp only at h
    split at h
    · rename_i kk m hm; cases h; exact ⟨kk, by simp [he.eval hm]⟩
    · cases h
/-- The bounds, where they are none. -/
def loOf : Option Int → Int
  | none => 0
  | some n => n
def hiOf (len : Int) : Option Int → Int
  | none => len
  | some n => n
theorem run_bounds {isS : Bool} {len cap : Nat} {a : Act} {env : Env} (he : ESat env a) {lo hi : Option Operand} {l h : Option Int} (hlo : optE env lo = some l) (hhi : optE env hi = some h)
    (hb : 0 ≤ loOf l ∧ loOf l ≤ hiOf len h ∧ hiOf len h ≤ cap) {P : Program} (w : World) : (Instr.sliceBounds isS len cap (lo.map a.eval) (hi.map a.eval) none).run P w = .ok ((loOf l).toNat, (hiOf len h).toNat, cap) w := by
  have h1 := optE_eval he hlo
  have h2 := optE_eval he hhi
  cases l with
  | none =>
    simp only at h1
    cases h with
    | none => simp only at h2; simp [Instr.sliceBounds, h1, h2, loOf, hiOf]
    | some n =>
      simp only at h2; obtain ⟨kk, h2⟩ := h2
      simp only [loOf, hiOf] at hb
      simp [Instr.sliceBounds, h1, h2, loOf, hiOf, Instr.sliceBound, asIntOf, hb]
  | some m =>
    simp only at h1; obtain ⟨k1, h1⟩ := h1
    cases h with
    | none =>
      simp only at h2
      simp only [loOf, hiOf] at hb
      simp [Instr.sliceBounds, h1, h2, loOf, hiOf, Instr.sliceBound, asIntOf, hb]
    | some n =>
      simp only at h2; obtain ⟨kk, h2⟩ := h2
      simp only [loOf, hiOf] at hb
      have hn : 0 ≤ n := by omega
      have hm : ¬ (max n 0 < m) := by omega
      simp [Instr.sliceBounds, h1, h2, loOf, hiOf, Instr.sliceBound, asIntOf, hb, hn]
      intro hc; exact absurd hc hm
theorem sxo_sliceS {x : Operand} {lo hi : Option Operand} {l h : Option Int} {s : ByteArray} (ho : o.op = .slice T x lo hi none) (hg : guardE rg.ops o env = some true) (hx : ev env x = some (.s (.o (.string s))))
    (hlo : optE env lo = some l) (hhi : optE env hi = some h) (ht : Tab.ti P T = some ti) (hd : ti.d = .str) (hdst : dstOk N o.dst = true) (hb : 0 ≤ loOf l ∧ loOf l ≤ hiOf s.size h ∧ hiOf s.size h ≤ s.size)
    (hn : SXo cx K ds rg H R k (setE env o.dst (.s (.o (.string (s.extract (loOf l).toNat (hiOf s.size h).toNat))))) mem) (hH : ∀ x ∈ H, rg.fr P x.idx i = true → x.chk mem := by repeat (first | exact hh_nil | refine hh_free rfl ?_ | refine hh_chk ⟨_, _, _, (by first | exact .head | exact .tail .head | exact .tail (.tail .head) | exact .tail (.tail (.tail .head)) | exact .tail (.tail (.tail (.tail .head)))), (by rfl)⟩ ?_ | refine hh_chk trivial ?_)) : SXo cx K ds rg H ((i, o) :: R) k env mem :=
  sxo_any (v := .s (.o (.string (s.extract (loOf l).toNat (hiOf s.size h).toNat)))) hg (by rw [ho]; rfl) hdst (fun a he w => by
    have hu : P.underlying T = some .string := by have := (Tab.ok T ti ht).desc; rw [hd] at this; exact this
    have hrun : (underlying T).run P w = .ok .string w := run_underlying hu w
    have := run_bounds (isS := false) he hlo hhi hb (P := P) w
    simp [execOp, ho, he.eval hx, Instr.sliceAt, Instr.slice, hrun, this]) hH hn
/-- A part of a slice. -/
theorem sxo_slice {x : Operand} {lo hi : Option Operand} {l' h : Option Int} {p : Option Addr} {n c : Nat} (ho : o.op = .slice T x lo hi none) (hg : guardE rg.ops o env = some true) (hx : ev env x = some (.s (.o (.slice p n c))))
    (hlo : optE env lo = some l') (hhi : optE env hi = some h) (ht : Tab.ti P T = some ti) (hd : ti.d = .slice eT) (he : Tab.ti P eT = some te) (hdst : dstOk N o.dst = true) (hv : Reads K mem ⟨p, n, c⟩ T0 wd enc l)
    (hb : 0 ≤ loOf l' ∧ loOf l' ≤ hiOf l.length h ∧ hiOf l.length h ≤ l.length)
    (hn : ∀ p' c', Sub2 te.size ⟨p, n, c⟩ ⟨p', (hiOf l.length h).toNat - (loOf l').toNat, c'⟩ (loOf l').toNat (hiOf l.length h).toNat → SXo cx K ds rg H R k (setE env o.dst (.s (.o (.slice p' ((hiOf l.length h).toNat - (loOf l').toNat) c')))) mem)
    (hH : ∀ x ∈ H, rg.fr P x.idx i = true → x.chk mem := by repeat (first | exact hh_nil | refine hh_free rfl ?_ | refine hh_chk ⟨_, _, _, (by first | exact .head | exact .tail .head | exact .tail (.tail .head) | exact .tail (.tail (.tail .head)) | exact .tail (.tail (.tail (.tail .head)))), (by rfl)⟩ ?_ | refine hh_chk trivial ?_)) : SXo cx K ds rg H ((i, o) :: R) k env mem := by
  by_cases hl : n = l.length ∧ n ≤ c
  · obtain ⟨rfl, hc⟩ := hl
    refine sxo_any (v := .s (.o (.slice (if c = (loOf l').toNat then p else p.map (·.add ((loOf l').toNat * te.size))) ((hiOf l.length h).toNat - (loOf l').toNat) (c - (loOf l').toNat)))) hg (by rw [ho]; rfl) hdst (fun a hs w => ?_) hH (hn _ _ ?_)
    · have hrun : (underlying T).run P w = .ok (.slice eT) w := run_underlying (tab_slice ht hd) w
      have := run_bounds (isS := true) (len := l.length) (cap := c) hs hlo hhi (by omega) (P := P) w
      have hsz := (Tab.ok eT te he).size w
      simp [execOp, ho, hs.eval hx, Instr.sliceAt, Instr.slice, hrun, this, hsz]
    · refine ⟨rfl, ?_⟩
      intro α' T0' enc' l2 hh hv2 hle
      have e2 := hv2.len
      simp only at e2
      exact VecAt.sub hv2 (by omega) hle rfl
  · exact sxo_void fun a w s => hl ⟨hv.len s.mem, (hv.at_ s.mem).cap⟩
end
end Go.SX

namespace Go.SX

theorem flat_flatten_len (n : Nat) (z : List Ch) : (flat (List.replicate n z).flatten).length = n * flatW z := by
  induction n with
  | zero => simp [flat]
  | succ n ih => simp only [List.replicate_succ, List.flatten_cons, flat_append, List.length_append, ih, flat_length, Nat.add_mul]; omega
theorem made_flat (z : List Ch) (n : Nat) : (Array.range (n * flatW z)).map ((flat z).toArray[· % (flat z).toArray.size]!) = (flat (List.replicate n z).flatten).toArray := by
  have key : ∀ (n k : Nat) , k < n * flatW z → (flat (List.replicate n z).flatten)[k]? = some ((flat z).toArray[k % (flat z).toArray.size]!) := by
    intro n
    induction n with
    | zero => intro k hk; simp at hk
    | succ n ih =>
      intro k hk
      simp only [List.replicate_succ, List.flatten_cons, flat_append]
      have hz : (flat z).length = flatW z := flat_length z
      by_cases hlt : k < flatW z
      · rw [List.getElem?_append_left (by omega), List.size_toArray, hz, Nat.mod_eq_of_lt hlt]
        simp [hz, hlt]
      · rw [List.getElem?_append_right (by omega), hz, ih (k - flatW z) (by rw [Nat.add_mul] at hk; omega), List.size_toArray, hz]
        congr 2
        rw [← Nat.mod_eq_sub_mod (by omega)]
  apply Array.toList_inj.1
  apply List.ext_getElem?
  intro k
  by_cases hk : k < n * flatW z
  · rw [key n k hk]; simp [hk]
  · rw [List.getElem?_eq_none (by simp; omega), List.getElem?_eq_none (by simp only []; rw [flat_flatten_len]; omega)]
theorem splice_fold : ∀ (vs : List Value) (X : Array Value) (off j : Nat), off + j + vs.length ≤ X.size → ((vs.zipIdx j).foldl (fun (cs : Array Value) (x : Value × Nat) => cs.setIfInBounds (off + x.2) x.1) X) = spliceA X (off + j) vs
  | [], X, off, j, h => by simp [spliceA]
  | v :: vs, X, off, j, h => by
    simp only [List.length_cons] at h
    rw [List.zipIdx_cons, List.foldl_cons]
    simp only
    rw [splice_fold vs _ off (j + 1) (by simp; omega)]
    have hb1 : off + (j + 1) + vs.length ≤ (X.setIfInBounds (off + j) v).size := by simp; omega
    have hb2 : off + j + (v :: vs).length ≤ X.size := by simp; omega
    apply Array.ext_getElem?
    intro q
    by_cases h1 : q < off + j
    · rw [spliceA_out hb1 (.inl (by omega)), spliceA_out hb2 (.inl h1), Array.getElem?_setIfInBounds_ne (by omega)]
    · by_cases h2 : q = off + j
      · subst h2
        rw [spliceA_out hb1 (.inl (by omega)), Array.getElem?_setIfInBounds_self_of_lt (by omega)]
        have := spliceA_in hb2 (j := 0) (by simp)
        simpa using this.symm
      · by_cases h3 : q < off + (j + 1) + vs.length
        · have e1 := spliceA_in hb1 (j := q - (off + (j + 1))) (by omega)
          have e2 := spliceA_in hb2 (j := q - (off + (j + 1)) + 1) (by simp; omega)
          rw [show off + (j + 1) + (q - (off + (j + 1))) = q by omega] at e1
          rw [show off + j + (q - (off + (j + 1)) + 1) = q by omega, List.getElem?_cons_succ] at e2
          rw [e1, e2]
        · rw [spliceA_out hb1 (.inr (by omega)), spliceA_out hb2 (.inr (by simp; omega)), Array.getElem?_setIfInBounds_ne (by omega)]
/-- Parts put in, one after the other. -/
def fillCh (place : Nat → Option (Nat × Nat)) : List Ch → List (Nat × SV1) → Option (List Ch)
  | cs, [] => some cs
  | cs, (i, v) :: rest => match place i with
    | some (off, size) => match putCh cs off size v.ch with
      | some cs' => match oneCh v.ch with
        | true => fillCh place cs' rest
        | false => none
      | none => none
    | none => none
theorem fillCh_spec (place place' : Nat → Option (Nat × Nat)) (hp : ∀ i x, place i = some x → place' i = some x) : ∀ (l : List (Nat × SV1)) (cs cs' : List Ch), fillCh place cs l = some cs' →
    Instr.fill place' (flat cs).toArray (l.map fun x => (x.1, x.2.val)) = some (flat cs').toArray
  | [], cs, cs', h => by cases h; rfl
  | (i, v) :: rest, cs, cs', h => by
    unfold fillCh at h
    split at h <;> try (cases h; done)
    rename_i off size hpl
    split at h <;> try (cases h; done)
    rename_i c1 hc1
    split at h <;> try (cases h; done)
    rename_i h1
    have ih := fillCh_spec place place' hp rest c1 cs' h
    obtain ⟨p, m, s, rfl, rfl, w1, w2, w3⟩ := putCh_spec hc1
    have hv := val_cells v h1
    have hvl : (flat v.ch).length = size := by rw [flat_length, w3]
    have hpl' : (flat p).length = off := by rw [flat_length, w1]
    have hml : (flat m).length = size := by rw [flat_length, w2]
    rw [List.map_cons, Instr.fill, hp _ _ hpl]
    simp only [hv, List.size_toArray, hvl, ne_eq, not_true_eq_false, decide_false, Bool.false_or, flat_append, List.length_append, hpl', hml]
    rw [if_neg (by simp)]
    have hsp : (flat v.ch).toArray.zipIdx.foldl (fun (cs : Array Value) (x : Value × Nat) => cs.setIfInBounds (off + x.2) x.1) (flat p ++ (flat m ++ flat s)).toArray = (flat (p ++ (v.ch ++ s))).toArray := by
      rw [← Array.foldl_toList, Array.toList_zipIdx]
      rw [splice_fold _ _ _ 0 (by simp [hpl', hml, hvl])]
      simp only [spliceA, Nat.add_zero, flat_append]
      rw [← hpl', hvl, ← hml]
      simp [List.drop_append, List.drop_eq_nil_of_le]
    have : (fun (cs : Array Value) (x : Value × Nat) => cs.setIfInBounds (off + x.2) x.1) = (fun (cs : Array Value) (x : Value × Nat) => match x with | (c, j) => cs.setIfInBounds (off + j) c) := by funext cs x; rfl
    rw [this] at hsp
    rw [hsp]
    exact ih
/-- The parts' values. -/
def partsE (env : Env) : List (Nat × Operand) → Option (List (Nat × SV1))
  | [] => some []
  | (i, x) :: r => match ev env x with
    | some (.s v) => match partsE env r with
      | some l => some ((i, v) :: l)
      | none => none
    | _ => none
theorem partsE_eval {env : Env} {a : Act} (he : ESat env a) : ∀ {l : List (Nat × Operand)} {vs : List (Nat × SV1)}, partsE env l = some vs → l.map (fun x => (x.1, a.eval x.2)) = vs.map fun x => (x.1, x.2.val)
  | [], vs, h => by cases h; rfl
  | (i, x) :: r, vs, h => by
    unfold partsE at h
    split at h
    · rename_i v hv
      split at h
      · rename_i l hl
        cases h
        simp [he.eval hv, partsE_eval he hl]
      · cases h
    · cases h
section
variable {P : Program} [Tab P] {N : Nat} {cx : Cx P N} {K : Hp} {ds : List Deferred} {k : List Item} {env : Env} {mem : List Ent} {rg : Rg} {H : List HE} {R : List (Nat × Oper)} {i : Nat} {o : Oper}
variable {α : Type} {T T0 T2 eT : TypeId} {enc : α → List Ch} {l lx : List α} {r : List Ent} {te ti : TInf} {wd : Nat}
/-- A struct's fields' places. -/
def placesE (P : Program) [Tab P] : List (Nat × TypeId) → Option (List (Nat × Nat))
  | [] => some []
  | (fo, ft) :: r => match Tab.ti P ft with
    | some j => match placesE P r with
      | some l => some ((fo, j.size) :: l)
      | none => none
    | none => none
theorem placesE_run : ∀ {ff : List Field} {fs : List (Nat × TypeId)} {pl : List (Nat × Nat)}, ff.map (fun f => (f.offset, f.type)) = fs → placesE P fs = some pl → ∀ w,
    (ff.mapM fun f => do pure (f.offset, ← sizeOf f.type) : Sem (List (Nat × Nat))).run P w = .ok pl w
  | [], fs, pl, e, h, w => by subst e; cases h; simp
  | f :: ff, fs, pl, e, h, w => by
    subst e
    simp only [List.map_cons, placesE] at h
    split at h
    · rename_i j hj
      split at h
      · rename_i l hl
        cases h
        have ih := placesE_run (ff := ff) rfl hl w
        rw [List.mapM_cons]
        simp only [Sem.run_bind, (Tab.ok _ _ hj).size, Result.andThen_ok, Sem.run_pure, ih]
      · cases h
    · cases h
/-- A struct that is written down. -/
theorem sxo_build {parts : Array (Nat × Operand)} {vs : List (Nat × SV1)} {fs : List (Nat × TypeId)} {pl : List (Nat × Nat)} {cs : List Ch} {z0 : Ch} {zs : List Ch} (ho : o.op = .build T parts) (hg : guardE rg.ops o env = some true) (hp : partsE env parts.toList = some vs)
    (ht : Tab.ti P T = some ti) (hd : ti.d = .struct fs) (hpl : placesE P fs = some pl) (hz : ti.zero = z0 :: zs) (hf : fillCh (pl[·]?) ti.zero vs = some cs) (hdst : dstOk N o.dst = true)
    (h : SXo cx K ds rg H R k (setE env o.dst (.s (.g cs))) mem) (hH : ∀ x ∈ H, rg.fr P x.idx i = true → x.chk mem := by repeat (first | exact hh_nil | refine hh_free rfl ?_ | refine hh_chk ⟨_, _, _, (by first | exact .head | exact .tail .head | exact .tail (.tail .head) | exact .tail (.tail (.tail .head)) | exact .tail (.tail (.tail (.tail .head)))), (by rfl)⟩ ?_ | refine hh_chk trivial ?_)) : SXo cx K ds rg H ((i, o) :: R) k env mem :=
  sxo_any (v := .s (.g cs)) hg (by rw [ho]; rfl) hdst (fun a he w => by
    have hdsc := (Tab.ok T ti ht).desc
    rw [hd] at hdsc
    obtain ⟨ff, hu, hff⟩ := hdsc
    have hrun : (underlying T).run P w = .ok (.struct ff) w := run_underlying hu w
    obtain ⟨z, hz1, hz2⟩ := zero_run (Tab.ok T ti ht) (by rw [hz]; simp)
    have hfill := fillCh_spec (pl[·]?) (fun i => pl.toArray[i]?) (fun i x h => by simpa using h) vs ti.zero cs hf
    have hpa : (parts.map fun x => (x.1, a.eval x.2)).toList = vs.map fun x => (x.1, x.2.val) := by rw [Array.toList_map]; exact partsE_eval he hp
    have hpm := placesE_run (P := P) hff hpl w
    obtain ⟨fl, rfl⟩ : ∃ fl : List Field, ff = fl.toArray := ⟨ff.toList, by simp⟩
    simp only [execOp, ho, Instr.build, Sem.run_bind, hz1, Result.andThen_ok, hrun, hz2]
    have e1 : (fl.toArray.mapM fun f => do pure (f.offset, ← sizeOf f.type) : Sem (Array (Nat × Nat))).run P w = .ok pl.toArray w := by
      rw [List.mapM_toArray]
      simp only [Sem.run_map]
      simp only [List.toList_toArray] at hpm
      rw [hpm]; rfl
    have e2 : (parts.map fun x => match x with | (i, x) => (i, a.eval x)).toList = vs.map fun x => (x.1, x.2.val) := hpa
    rw [e1]
    simp only [Result.andThen_ok]
    rw [e2, hfill]
    rfl) hH h
theorem zeroCells_of (he : Tab.ti P eT = some te) (hz : te.zero ≠ []) : ∃ z, (∀ w, (zeroValue eT).run P w = .ok z w) ∧ z.cells = (flat te.zero).toArray := zero_run (Tab.ok eT te he) hz
/-- A slice that is written down. -/
theorem sxo_buildSlice {parts : Array (Nat × Operand)} {n : Nat} {vs : List (Nat × SV1)} {cs : List Ch} {z0 : Ch} {zs : List Ch} (ho : o.op = .buildSlice T n parts) (hg : guardE rg.ops o env = some true) (hp : partsE env parts.toList = some vs)
    (ht : Tab.ti P T = some ti) (hd : ti.d = .slice eT) (he : Tab.ti P eT = some te) (hz : te.zero = z0 :: zs) (hzs : flatW te.zero = te.size) (hn : Nat.ble (n * te.size) 16777216 = true) (hn0 : Nat.beq (n * te.size) 0 = false)
    (hf : fillCh (fun i => some (i * te.size, te.size)) (List.replicate n te.zero).flatten vs = some cs) (hdst : dstOk N o.dst = true) (hl : rg.lt P i = false)
    (h : ∀ b, SXo cx K ds rg H R k (setE env o.dst (.s (.o (.slice (some ⟨b, 0, none⟩) n n)))) (.blk b eT cs :: mem)) (hH : ∀ b, ∀ x ∈ H, rg.fr P x.idx i = true → x.chk (.blk b eT cs :: mem) := by intro _; repeat (first | exact hh_nil | refine hh_free rfl ?_ | refine hh_chk ⟨_, _, _, (by first | exact .head | exact .tail .head | exact .tail (.tail .head) | exact .tail (.tail (.tail .head)) | exact .tail (.tail (.tail (.tail .head)))), (by rfl)⟩ ?_ | refine hh_chk trivial ?_)) : SXo cx K ds rg H ((i, o) :: R) k env mem :=
  sxo_new (ob := .cells (flat cs).toArray eT (0, 0)) (ent := fun b => .blk b eT cs) (val := fun b => .s (.o (.slice (some ⟨b, 0, none⟩) n n))) hg (by rw [ho]; rfl) hdst hl (fun a w s => by
    have hrun : (underlying T).run P w = .ok (.slice eT) w := run_underlying (tab_slice ht hd) w
    have hsz := (Tab.ok eT te he).size w
    obtain ⟨z, hz1, hz2⟩ := zeroCells_of he (by rw [hz]; simp)
    have hle : ¬ (n * te.size > 2 ^ 24) := by have := Nat.le_of_ble_eq_true hn; omega
    have hne : ¬ (n * te.size = 0) := by intro hc; rw [hc] at hn0; cases hn0
    have hfill := fillCh_spec (fun i => some (i * te.size, te.size)) (fun i => some (i * te.size, te.size)) (fun _ _ h => h) vs _ cs hf
    have hmade := made_flat te.zero n
    rw [hzs] at hmade
    have e2 : (parts.map fun x => match x with | (i, x) => (i, a.eval x)).toList = vs.map fun x => (x.1, x.2.val) := by rw [Array.toList_map]; exact partsE_eval s.env hp
    simp only [execOp, ho, Instr.buildSlice, Sem.run_bind, hrun, Result.andThen_ok, hsz, if_neg hle, if_neg hne, Sem.run_pure, hz1, hz2]
    rw [hmade, e2, hfill]
    simp [newRow]) (fun b => by simp [Ent.den, one_self]) h hH
/-- ... with nothing in it. -/
theorem sxo_buildSlice0 (ho : o.op = .buildSlice T 0 #[]) (hg : guardE rg.ops o env = some true) (ht : Tab.ti P T = some ti) (hd : ti.d = .slice eT) (he : Tab.ti P eT = some te) (hdst : dstOk N o.dst = true) (hl : rg.lt P i = false)
    (h : ∀ b, SXo cx K ds rg H R k (setE env o.dst (.s (.o (.slice (some ⟨b, 0, none⟩) 0 0)))) (.blk b eT [] :: mem)) (hH : ∀ b, ∀ x ∈ H, rg.fr P x.idx i = true → x.chk (.blk b eT [] :: mem) := by intro _; repeat (first | exact hh_nil | refine hh_free rfl ?_ | refine hh_chk ⟨_, _, _, (by first | exact .head | exact .tail .head | exact .tail (.tail .head) | exact .tail (.tail (.tail .head)) | exact .tail (.tail (.tail (.tail .head)))), (by rfl)⟩ ?_ | refine hh_chk trivial ?_)) : SXo cx K ds rg H ((i, o) :: R) k env mem :=
  sxo_new (ob := .cells #[] eT (0, 0)) (ent := fun b => .blk b eT []) (val := fun b => .s (.o (.slice (some ⟨b, 0, none⟩) 0 0))) hg (by rw [ho]; rfl) hdst hl (fun a w s => by
    have hrun : (underlying T).run P w = .ok (.slice eT) w := run_underlying (tab_slice ht hd) w
    have hsz := (Tab.ok eT te he).size w
    simp [execOp, ho, Instr.buildSlice, hrun, hsz, newRow, Instr.fill]
    rw [show Array.range 0 = #[] by simp, Array.map_empty]) (fun b => by simp [Ent.den, one_self, flat]) h hH
/-- A slice that is made. -/
theorem sxo_makeSlice {α : Type} (enc : α → List Ch) (z1 : α) {x y : Operand} {k1 k2 : IntKind} {n c : Int} {z0 : Ch} {zs : List Ch} (ho : o.op = .makeSlice T x y) (hg : guardE rg.ops o env = some true) (hx : ev env x = some (.s (.o (.int k1 n)))) (hy : ev env y = some (.s (.o (.int k2 c))))
    (ht : Tab.ti P T = some ti) (hd : ti.d = .slice eT) (he : Tab.ti P eT = some te) (hz : te.zero = z0 :: zs) (hzs : flatW te.zero = te.size) (hwd : te.size = wd) (hez : te.zero = enc z1) (hdst : dstOk N o.dst = true) (hl : rg.lt P i = false)
    (hn : 0 ≤ n ∧ n ≤ c ∧ te.bytes * c ≤ 281474976710656 ∧ c ≤ 9223372036854775807)
    (h : ∀ b, SXo cx K ds rg H R k (setE env o.dst (.s (.o (.slice (some ⟨b, 0, none⟩) n.toNat c.toNat)))) (.vec ⟨some ⟨b, 0, none⟩, n.toNat, c.toNat⟩ eT wd enc (List.replicate n.toNat z1) :: mem))
    (hH : ∀ b, ∀ x ∈ H, rg.fr P x.idx i = true → x.chk (.vec ⟨some ⟨b, 0, none⟩, n.toNat, c.toNat⟩ eT wd enc (List.replicate n.toNat z1) :: mem) := by intro _; repeat (first | exact hh_nil | refine hh_free rfl ?_ | refine hh_chk ⟨_, _, _, (by first | exact .head | exact .tail .head | exact .tail (.tail .head) | exact .tail (.tail (.tail .head)) | exact .tail (.tail (.tail (.tail .head)))), (by rfl)⟩ ?_ | refine hh_chk trivial ?_)) : SXo cx K ds rg H ((i, o) :: R) k env mem := by
  subst hwd
  obtain ⟨inf, z, hi, hzz, hisz, hiby, hzc⟩ := tab_info he (by rw [hz]; simp)
  have hmade := made_flat te.zero c.toNat
  refine sxo_new (ob := .cells (flat (List.replicate c.toNat te.zero).flatten).toArray eT (0, 0)) (ent := fun b => .vec ⟨some ⟨b, 0, none⟩, n.toNat, c.toNat⟩ eT te.size enc (List.replicate n.toNat z1)) (val := fun b => .s (.o (.slice (some ⟨b, 0, none⟩) n.toNat c.toNat))) hg (by rw [ho]; rfl) hdst hl (fun a w s => ?_) (fun b => ?_) h hH
  · have hrun := run_make w T eT inf z (tab_slice ht hd) hi hzz k1 k2 n c hn.1 hn.2.1 (by rw [hiby]; exact hn.2.2.1) hn.2.2.2
    have : madeCells z.cells (c.toNat * inf.size) = (flat (List.replicate c.toNat te.zero).flatten).toArray := by
      rw [← hmade, hisz, hzs, hzc]; rfl
    simp only [execOp, ho, s.env.eval hx, s.env.eval hy, Sem.run_bind, hrun, Result.andThen_ok, Sem.run_pure, this]
    rfl
  · refine .inr ⟨b, 0, _, rfl, by simp, ?_, one_self _ _, ?_, ?_, ?_⟩
    · show n.toNat ≤ c.toNat; omega
    · simp only [List.size_toArray, Nat.zero_add]; rw [flat_flatten_len, hzs]; exact Nat.le_refl _
    · intro x hx; rw [(List.mem_replicate.1 hx).2, ← hez, hzs]
    · intro j x hx q v hv
      have hjl := (List.getElem?_eq_some_iff.1 hx).1
      have hx' := List.mem_of_getElem? hx
      rw [(List.mem_replicate.1 hx').2, ← hez] at hv
      have hq := (List.getElem?_eq_some_iff.1 hv).1
      rw [flat_length, hzs] at hq
      simp only [List.length_replicate] at hjl
      rw [← hmade, hzs]
      have hlt : j * te.size + q < c.toNat * te.size := by
        have : (j + 1) * te.size ≤ c.toNat * te.size := Nat.mul_le_mul_right _ (by omega)
        rw [Nat.add_mul] at this; omega
      have hmod : (j * te.size + q) % te.size = q := by rw [Nat.add_comm, Nat.add_mul_mod_self_right]; exact Nat.mod_eq_of_lt hq
      have hflz : (flat te.zero).length = te.size := by rw [flat_length, hzs]
      simp [hlt, hflz, hmod, Nat.zero_add]
      have := List.getElem?_eq_some_iff.1 hv
      obtain ⟨hl, hv⟩ := this
      simp [hl, hv]
end
end Go.SX

namespace Go.SX
/-- What a lookup of a map hands back where there is nothing. -/
class HasZ (ν : Type) where
  z : ν
section
variable {P : Program} [Tab P] {N : Nat} {cx : Cx P N} {K : Hp} {ds : List Deferred} {k : List Item} {env : Env} {mem : List Ent} {rg : Rg} {H : List HE} {R : List (Nat × Oper)} {i : Nat} {o : Oper}
variable {T eT : TypeId} {ti te : TInf} {x y : Operand} {pos : String}
theorem tab_ptr (ht : Tab.ti P T = some ti) (hd : ti.d = .ptr eT) : P.underlying T = some (.pointer eT) := by
  have := (Tab.ok T ti ht).desc; rw [hd] at this; exact this
theorem equal_run {a b : Value} {r : Bool} {w : World} (h : ∀ d, (Op.equalIn (d + 1) T a b).run P w = .ok r w) : (Op.equal T a b).run P w = .ok r w := h 9999
theorem exec_eq {u : TypeId} {a b : Value} {ac : Act} {r : Bool} {w : World} (ho : o.op = .binOp .eql T x y u) (hx : ac.eval x = a) (hy : ac.eval y = b) (hg : eqGuard .eql T x y a b = pure ()) (hb : binOp .eql T a b = (do pure (.bool (← Op.equal T a b))))
    (h : (Op.equal T a b).run P w = .ok r w) : (execOp ac.eval o).run P w = .ok (.value (.bool r)) w := by
  simp only [execOp, ho, hx, hy, hg, hb, Sem.run_bind, Sem.run_pure, Result.andThen_ok, h]
theorem exec_ne {u : TypeId} {a b : Value} {ac : Act} {r : Bool} {w : World} (ho : o.op = .binOp .neq T x y u) (hx : ac.eval x = a) (hy : ac.eval y = b) (hg : eqGuard .neq T x y a b = pure ()) (hb : binOp .neq T a b = (do pure (.bool (!(← Op.equal T a b)))))
    (h : (Op.equal T a b).run P w = .ok r w) : (execOp ac.eval o).run P w = .ok (.value (.bool (!r))) w := by
  simp only [execOp, ho, hx, hy, hg, hb, Sem.run_bind, Sem.run_pure, Result.andThen_ok, h]
theorem eqPtr_run {p q : Option Addr} (ht : Tab.ti P T = some ti) (hd : ti.d = .ptr eT) (hn : (p.isNone || q.isNone) = true) (w : World) : (Op.equal T (.pointer p) (.pointer q)).run P w = .ok (p.isNone && q.isNone) w := by
  have hrun : (underlying T).run P w = .ok (.pointer eT) w := run_underlying (tab_ptr ht hd) w
  refine equal_run fun d => ?_
  cases p <;> cases q <;> simp at hn <;> simp only [Op.equalIn, Sem.run_bind, hrun, Result.andThen_ok] <;> rfl
theorem eqPtrB_run {b f g : Nat} (ht : Tab.ti P T = some ti) (hd : ti.d = .ptr eT) (he : Tab.ti P eT = some te) (hz : Nat.beq te.size 0 = false) (w : World) :
    (Op.equal T (.pointer (some ⟨b, f, none⟩)) (.pointer (some ⟨b, g, none⟩))).run P w = .ok (decide (f = g)) w := by
  have hrun : (underlying T).run P w = .ok (.pointer eT) w := run_underlying (tab_ptr ht hd) w
  have hsz := (Tab.ok eT te he).size w
  have hne : te.size ≠ 0 := by intro hc; rw [hc] at hz; cases hz
  have hb : ((⟨b, f, none⟩ : Addr) == ⟨b, g, none⟩) = decide (f = g) := by
    rw [Bool.eq_iff_iff]; simp
  refine equal_run fun d => ?_
  simp only [Op.equalIn, Sem.run_bind, hrun, Result.andThen_ok, hsz, if_pos hne, sameAddr, BEq.rfl, if_true, Sem.run_pure, hb]
theorem eqBool_run {p q : Bool} (ht : P.underlying T = some .bool) (w : World) : (Op.equal T (.bool p) (.bool q)).run P w = .ok (p == q) w := by
  have hrun : (underlying T).run P w = .ok .bool w := run_underlying ht w
  refine equal_run fun d => ?_
  simp only [Op.equalIn, Sem.run_bind, hrun, Result.andThen_ok, Sem.run_pure]
/-- A pointer held against another one, of which one is nil. -/
theorem sxo_eqPtr {u : TypeId} {p q : Option Addr} (ho : o.op = .binOp .eql T x y u) (hg : guardE rg.ops o env = some true) (hx : ev env x = some (.s (.o (.pointer p)))) (hy : ev env y = some (.s (.o (.pointer q))))
    (ht : Tab.ti P T = some ti) (hd : ti.d = .ptr eT) (hn : (p.isNone || q.isNone) = true) (hdst : dstOk N o.dst = true)
    (h : SXo cx K ds rg H R k (setE env o.dst (.s (.o (.bool (p.isNone && q.isNone))))) mem) (hH : ∀ x ∈ H, rg.fr P x.idx i = true → x.chk mem := by repeat (first | exact hh_nil | refine hh_free rfl ?_ | refine hh_chk ⟨_, _, _, (by first | exact .head | exact .tail .head | exact .tail (.tail .head) | exact .tail (.tail (.tail .head)) | exact .tail (.tail (.tail (.tail .head)))), (by rfl)⟩ ?_ | refine hh_chk trivial ?_)) : SXo cx K ds rg H ((i, o) :: R) k env mem :=
  sxo_any (v := .s (.o (.bool (p.isNone && q.isNone)))) hg (by rw [ho]; rfl) hdst (fun a hs w => exec_eq ho (hs.eval hx) (hs.eval hy) rfl rfl (eqPtr_run ht hd hn w)) hH h
theorem sxo_nePtr {u : TypeId} {p q : Option Addr} (ho : o.op = .binOp .neq T x y u) (hg : guardE rg.ops o env = some true) (hx : ev env x = some (.s (.o (.pointer p)))) (hy : ev env y = some (.s (.o (.pointer q))))
    (ht : Tab.ti P T = some ti) (hd : ti.d = .ptr eT) (hn : (p.isNone || q.isNone) = true) (hdst : dstOk N o.dst = true)
    (h : SXo cx K ds rg H R k (setE env o.dst (.s (.o (.bool (!(p.isNone && q.isNone)))))) mem) (hH : ∀ x ∈ H, rg.fr P x.idx i = true → x.chk mem := by repeat (first | exact hh_nil | refine hh_free rfl ?_ | refine hh_chk ⟨_, _, _, (by first | exact .head | exact .tail .head | exact .tail (.tail .head) | exact .tail (.tail (.tail .head)) | exact .tail (.tail (.tail (.tail .head)))), (by rfl)⟩ ?_ | refine hh_chk trivial ?_)) : SXo cx K ds rg H ((i, o) :: R) k env mem :=
  sxo_any (v := .s (.o (.bool (!(p.isNone && q.isNone))))) hg (by rw [ho]; rfl) hdst (fun a hs w => exec_ne ho (hs.eval hx) (hs.eval hy) rfl rfl (eqPtr_run ht hd hn w)) hH h
/-- Two pointers into one block. -/
theorem sxo_eqPtrB {u : TypeId} {b f g : Nat} (ho : o.op = .binOp .eql T x y u) (hg : guardE rg.ops o env = some true) (hx : ev env x = some (.s (.o (.pointer (some ⟨b, f, none⟩))))) (hy : ev env y = some (.s (.o (.pointer (some ⟨b, g, none⟩)))))
    (ht : Tab.ti P T = some ti) (hd : ti.d = .ptr eT) (he : Tab.ti P eT = some te) (hz : Nat.beq te.size 0 = false) (hdst : dstOk N o.dst = true)
    (h : SXo cx K ds rg H R k (setE env o.dst (.s (.o (.bool (decide (f = g)))))) mem) (hH : ∀ x ∈ H, rg.fr P x.idx i = true → x.chk mem := by repeat (first | exact hh_nil | refine hh_free rfl ?_ | refine hh_chk ⟨_, _, _, (by first | exact .head | exact .tail .head | exact .tail (.tail .head) | exact .tail (.tail (.tail .head)) | exact .tail (.tail (.tail (.tail .head)))), (by rfl)⟩ ?_ | refine hh_chk trivial ?_)) : SXo cx K ds rg H ((i, o) :: R) k env mem :=
  sxo_any (v := .s (.o (.bool (decide (f = g))))) hg (by rw [ho]; rfl) hdst (fun a hs w => exec_eq ho (hs.eval hx) (hs.eval hy) rfl rfl (eqPtrB_run ht hd he hz w)) hH h
/-- Truth values. -/
theorem sxo_eqBool {u : TypeId} {p q : Bool} (ho : o.op = .binOp .eql T x y u) (hg : guardE rg.ops o env = some true) (hx : ev env x = some (.s (.o (.bool p)))) (hy : ev env y = some (.s (.o (.bool q))))
    (ht : Tab.ti P T = some ti) (hd : ti.d = .bool) (hdst : dstOk N o.dst = true)
    (h : SXo cx K ds rg H R k (setE env o.dst (.s (.o (.bool (p == q))))) mem) (hH : ∀ x ∈ H, rg.fr P x.idx i = true → x.chk mem := by repeat (first | exact hh_nil | refine hh_free rfl ?_ | refine hh_chk ⟨_, _, _, (by first | exact .head | exact .tail .head | exact .tail (.tail .head) | exact .tail (.tail (.tail .head)) | exact .tail (.tail (.tail (.tail .head)))), (by rfl)⟩ ?_ | refine hh_chk trivial ?_)) : SXo cx K ds rg H ((i, o) :: R) k env mem :=
  sxo_any (v := .s (.o (.bool (p == q)))) hg (by rw [ho]; rfl) hdst (fun a hs w => exec_eq ho (hs.eval hx) (hs.eval hy) rfl rfl (eqBool_run (by have := (Tab.ok T ti ht).desc; rw [hd] at this; exact this) w)) hH h
theorem sxo_neBool {u : TypeId} {p q : Bool} (ho : o.op = .binOp .neq T x y u) (hg : guardE rg.ops o env = some true) (hx : ev env x = some (.s (.o (.bool p)))) (hy : ev env y = some (.s (.o (.bool q))))
    (ht : Tab.ti P T = some ti) (hd : ti.d = .bool) (hdst : dstOk N o.dst = true)
    (h : SXo cx K ds rg H R k (setE env o.dst (.s (.o (.bool (!(p == q)))))) mem) (hH : ∀ x ∈ H, rg.fr P x.idx i = true → x.chk mem := by repeat (first | exact hh_nil | refine hh_free rfl ?_ | refine hh_chk ⟨_, _, _, (by first | exact .head | exact .tail .head | exact .tail (.tail .head) | exact .tail (.tail (.tail .head)) | exact .tail (.tail (.tail (.tail .head)))), (by rfl)⟩ ?_ | refine hh_chk trivial ?_)) : SXo cx K ds rg H ((i, o) :: R) k env mem :=
  sxo_any (v := .s (.o (.bool (!(p == q))))) hg (by rw [ho]; rfl) hdst (fun a hs w => exec_ne ho (hs.eval hx) (hs.eval hy) rfl rfl (eqBool_run (by have := (Tab.ok T ti ht).desc; rw [hd] at this; exact this) w)) hH h
/-- A slice held against nil. -/
theorem sxo_eqSl {u : TypeId} {p : Option Addr} {n c : Nat} (ho : o.op = .binOp .eql T x y u) (hg : guardE rg.ops o env = some true) (hx : ev env x = some (.s (.o (.slice p n c)))) (hy : ev env y = some (.s (.o (.slice none 0 0))))
    (ht : Tab.ti P T = some ti) (hd : ti.d = .slice eT) (hdst : dstOk N o.dst = true)
    (h : SXo cx K ds rg H R k (setE env o.dst (.s (.o (.bool p.isNone)))) mem) (hH : ∀ x ∈ H, rg.fr P x.idx i = true → x.chk mem := by repeat (first | exact hh_nil | refine hh_free rfl ?_ | refine hh_chk ⟨_, _, _, (by first | exact .head | exact .tail .head | exact .tail (.tail .head) | exact .tail (.tail (.tail .head)) | exact .tail (.tail (.tail (.tail .head)))), (by rfl)⟩ ?_ | refine hh_chk trivial ?_)) : SXo cx K ds rg H ((i, o) :: R) k env mem :=
  sxo_any (v := .s (.o (.bool p.isNone))) hg (by rw [ho]; rfl) hdst (fun a hs w => exec_eq ho (hs.eval hx) (hs.eval hy) rfl rfl (by
    have hrun : (underlying T).run P w = .ok (.slice eT) w := run_underlying (tab_slice ht hd) w
    refine equal_run fun d => ?_
    cases p <;> simp only [Op.equalIn, Sem.run_bind, hrun, Result.andThen_ok] <;> rfl)) hH h
end
end Go.SX

namespace Go.SX
section
variable {P : Program} [Tab P] {N : Nat} {cx : Cx P N} {K : Hp} {ds : List Deferred} {k : List Item} {env : Env} {mem : List Ent} {rg : Rg} {H : List HE} {R : List (Nat × Oper)} {i : Nat}
variable {d : Option Tmp} {ty : TypeId} {ps : String} {af : Array Edge} {gd : Option (Nat × Bool)} {T S : TypeId} {x y z : Operand} {n : Nat} {g : Nat × Bool} {op : Op} {b : BinOp} {u : UnOp}
abbrev Nx (cx : Cx P N) (K : Hp) (ds : List Deferred) (rg : Rg) (H : List HE) (R : List (Nat × Oper)) (k : List Item) (env : Env) (mem : List Ent) (i : Nat) (d : Option Tmp) (op : Op) (ty : TypeId) (ps : String) (af : Array Edge) (gd : Option (Nat × Bool)) : Prop :=
  SXo cx K ds rg H ((i, { dst := d, op := op, type := ty, pos := ps, after := af, guard := gd }) :: R) k env mem
theorem kd_guard (h : Nx cx K ds rg H R k env mem i d op ty ps af (some g)) : Nx cx K ds rg H R k env mem i d op ty ps af (some g) := h
theorem kd_move (h : Nx cx K ds rg H R k env mem i d (.move x) ty ps af gd) : Nx cx K ds rg H R k env mem i d (.move x) ty ps af gd := h
theorem kd_assign (h : Nx cx K ds rg H R k env mem i d (.assign x) ty ps af gd) : Nx cx K ds rg H R k env mem i d (.assign x) ty ps af gd := h
theorem kd_pick (h : Nx cx K ds rg H R k env mem i d (.pick x y z) ty ps af gd) : Nx cx K ds rg H R k env mem i d (.pick x y z) ty ps af gd := h
theorem kd_nilCheck (h : Nx cx K ds rg H R k env mem i d (.nilCheck x) ty ps af gd) : Nx cx K ds rg H R k env mem i d (.nilCheck x) ty ps af gd := h
theorem kd_binOp (h : Nx cx K ds rg H R k env mem i d (.binOp b T x y S) ty ps af gd) : Nx cx K ds rg H R k env mem i d (.binOp b T x y S) ty ps af gd := h
theorem kd_unOp (h : Nx cx K ds rg H R k env mem i d (.unOp u T x) ty ps af gd) : Nx cx K ds rg H R k env mem i d (.unOp u T x) ty ps af gd := h
theorem kd_extract (h : Nx cx K ds rg H R k env mem i d (.extract x n) ty ps af gd) : Nx cx K ds rg H R k env mem i d (.extract x n) ty ps af gd := h
theorem kd_fieldAddr (h : Nx cx K ds rg H R k env mem i d (.fieldAddr T x n) ty ps af gd) : Nx cx K ds rg H R k env mem i d (.fieldAddr T x n) ty ps af gd := h
theorem kd_field (h : Nx cx K ds rg H R k env mem i d (.field T x n) ty ps af gd) : Nx cx K ds rg H R k env mem i d (.field T x n) ty ps af gd := h
theorem kd_makeFunc {f : Fn} {a c : Array Operand} (h : Nx cx K ds rg H R k env mem i d (.makeFunc f a c) ty ps af gd) : Nx cx K ds rg H R k env mem i d (.makeFunc f a c) ty ps af gd := h
theorem kd_load (h : Nx cx K ds rg H R k env mem i d (.load T x) ty ps af gd) : Nx cx K ds rg H R k env mem i d (.load T x) ty ps af gd := h
theorem kd_store (h : Nx cx K ds rg H R k env mem i d (.store T x y) ty ps af gd) : Nx cx K ds rg H R k env mem i d (.store T x y) ty ps af gd := h
theorem kd_alloc (h : Nx cx K ds rg H R k env mem i d (.alloc T) ty ps af gd) : Nx cx K ds rg H R k env mem i d (.alloc T) ty ps af gd := h
theorem kd_box (h : Nx cx K ds rg H R k env mem i d (.box T x) ty ps af gd) : Nx cx K ds rg H R k env mem i d (.box T x) ty ps af gd := h
theorem kd_build {p : Array (Nat × Operand)} (h : Nx cx K ds rg H R k env mem i d (.build T p) ty ps af gd) : Nx cx K ds rg H R k env mem i d (.build T p) ty ps af gd := h
theorem kd_buildSlice {p : Array (Nat × Operand)} (h : Nx cx K ds rg H R k env mem i d (.buildSlice T n p) ty ps af gd) : Nx cx K ds rg H R k env mem i d (.buildSlice T n p) ty ps af gd := h
theorem kd_convert (h : Nx cx K ds rg H R k env mem i d (.convert T S x) ty ps af gd) : Nx cx K ds rg H R k env mem i d (.convert T S x) ty ps af gd := h
theorem kd_update (h : Nx cx K ds rg H R k env mem i d (.mapUpdate T x y z) ty ps af gd) : Nx cx K ds rg H R k env mem i d (.mapUpdate T x y z) ty ps af gd := h
theorem kd_lookup {q : Bool} (h : Nx cx K ds rg H R k env mem i d (.lookup T x y q) ty ps af gd) : Nx cx K ds rg H R k env mem i d (.lookup T x y q) ty ps af gd := h
theorem kd_builtin {f : Builtin} {a : Array Operand} {t : Array TypeId} (h : Nx cx K ds rg H R k env mem i d (.call { callee := .builtin f, args := a, argTypes := t }) ty ps af gd) : Nx cx K ds rg H R k env mem i d (.call { callee := .builtin f, args := a, argTypes := t }) ty ps af gd := h
end
end Go.SX
