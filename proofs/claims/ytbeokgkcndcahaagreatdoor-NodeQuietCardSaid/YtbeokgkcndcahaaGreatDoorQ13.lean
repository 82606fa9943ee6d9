/-
  Strings and bytes, copy, clear, arrays by value, maps.clone.
-/
import Derived.Test.YtbeokgkcndcahaaGreatDoorQ11
import Derived.Test.YtbeokgkcndcahaaGreatDoorQ07
import Derived.Lib.ConvBytes
import Derived.Laws.BytesString
import Derived.Laws.IdiomStrings
import GoSem.Extern.MapsClone
set_option linter.all false
namespace Go.SX
@[reducible] def encB (n : UInt8) : List Ch := [.c (.int .u8 n.toNat)]
@[reducible] def ekB (n : UInt8) : SV1 := .o (.int .u8 n.toNat)
/-- What a slice reads as (no more is told). -/
def rdE {α : Type} (s : Sl) (T : TypeId) (wd : Nat) (enc : α → List Ch) (l : List α) : Ent := .abs 0 fun _ h => VecRd s T wd enc l h
section
variable {P : Program} [Tab P] {N : Nat} {cx : Cx P N} {K : Hp} {ds : List Deferred} {k : List Item} {env : Env} {mem r : List Ent} {rg : Rg} {H : List HE} {R : List (Nat × Oper)} {i : Nat} {o : Oper}
variable {T eT T0 : TypeId} {ti te : TInf}
theorem Reads.of {α : Type} {s : Sl} {wd : Nat} {enc : α → List Ch} {l : List α} (h : Pick mem (rdE s T0 wd enc l) r) : Reads K mem s T0 wd enc l := fun _ hm => by
  obtain ⟨h1, _, _, _, _, s1, _, _, he, _⟩ := (MSat.pick h hm).head
  have he' : VecRd s T0 wd enc l h1 := he
  exact he'.mono s1
/-- A string turned into bytes. -/
theorem sxo_s2b {S D : TypeId} {x : Operand} {s : ByteArray} {tj tu : TInf} (ho : o.op = .convert S D x) (hg : guardE rg.ops o env = some true) (hx : ev env x = some (.s (.o (.string s))))
    (hs : Tab.ti P S = some ti) (hsd : ti.d = .str) (hd : Tab.ti P D = some tj) (hdd : tj.d = .slice eT) (he : Tab.ti P eT = some tu) (hed : tu.d = .int .u8) (hdst : dstOk N o.dst = true) (hl : rg.lt P i = false)
    (h : ∀ p c, SXo cx K ds rg H R k (setE env o.dst (.s (.o (.slice p s.size c)))) (rdE ⟨p, s.size, c⟩ eT 1 encB s.data.toList :: mem))
    (hH : ∀ p c, ∀ x ∈ H, rg.fr P x.idx i = true → x.chk (rdE ⟨p, s.size, c⟩ eT 1 encB s.data.toList :: mem) := by intro _ _; repeat (first | exact hh_nil | refine hh_free rfl ?_ | refine hh_chk ⟨_, _, _, (by first | exact .head | exact .tail .head | exact .tail (.tail .head) | exact .tail (.tail (.tail .head)) | exact .tail (.tail (.tail (.tail .head)))), (by rfl)⟩ ?_ | refine hh_chk trivial ?_)) : SXo cx K ds rg H ((i, o) :: R) k env mem :=
  sxo_act hl hg (by rw [ho]; rfl) fun a w st => by
    have h1 : P.underlying S = some .string := by have := (Tab.ok S ti hs).desc; rw [hsd] at this; exact this
    have h2 : P.underlying D = some (.slice eT) := tab_slice hd hdd
    have h3 : P.underlying eT = some (.int .u8) := by have := (Tab.ok eT tu he).desc; rw [hed] at this; exact this
    have hrun := Lib.run_convert_string_bytes w S D eT s h1 h2 h3
    have hex : (execOp a.eval o).run P w = .ok (.value (.slice (some ⟨w.heap.size, 0, none⟩) s.size (grownCap w s.size 0 eT))) (Lib.bytesWorld w eT s) := by
      simp [execOp, ho, st.env.eval hx, hrun]
    unfold OW
    rw [hex]
    have hos : (Lib.bytesWorld w eT s).os = w.os := rfl
    have hout : (Lib.bytesWorld w eT s).output = w.output := rfl
    refine ⟨_, _, _, ⟨by rw [Act.put_def]; exact st.ds, by rw [Act.put_size]; exact st.size, st.env.put st.size hdst (.s (.o (.slice (some ⟨w.heap.size, 0, none⟩) s.size (grownCap w s.size 0 eT)))), ?_, hos.trans st.os, hout.trans st.out⟩, hH _ _, h _ _⟩
    have hvw : vw (Lib.bytesWorld w eT s) = fun k => if k = w.heap.size then some (.cells (Lib.bytesCells w eT s) eT ((Lib.bytesCells w eT s).size, (Lib.bytesCells w eT s).size + 1)) else vw w k := by
      funext k
      unfold vw
      by_cases e : k = w.heap.size
      · subst e; simp [Lib.bytesWorld_at_new]
      · rw [if_neg e]
        rcases Nat.lt_or_ge k w.heap.size with hlt | hge
        · exact Lib.bytesWorld_at_old w eT s k hlt
        · rw [Array.getElem?_eq_none hge, Array.getElem?_eq_none (by rw [Lib.bytesWorld_size]; omega)]
    rw [hvw]
    refine st.mem.new (vw_size w) ?_
    refine .inr ⟨one w.heap.size (.cells (Lib.bytesCells w eT s) eT (0, 0)), fun b c T0 hb => ?_, ?_⟩
    · obtain ⟨rfl, e⟩ := one_some hb
      cases e
      exact ⟨_, _, one_self _ _⟩
    · have hge := grownCap_ge w s.size 0 eT
      have hsz : s.data.toList.length = s.size := by simp
      refine .inr ⟨w.heap.size, 0, Lib.bytesCells w eT s, rfl, hsz.symm, by simpa using hge, one_self _ _, ?_, fun _ _ => rfl, ?_⟩
      · simp [Lib.bytesCells]; have : s.data.size = s.size := rfl
        omega
      · intro j x hx q u hu
        have hjl := (List.getElem?_eq_some_iff.1 hx).1
        have hq : q = 0 := by
          have := (List.getElem?_eq_some_iff.1 hu).1
          simp [flat, Ch.vals] at this; omega
        subst hq
        simp [flat, Ch.vals] at hu
        subst hu
        have hj2 : j < s.data.size := by simpa using hjl
        simp only [Nat.zero_add, Nat.mul_one, Nat.add_zero, Lib.bytesCells]
        rw [Array.getElem?_append_left (by simpa using hj2)]
        simp at hx
        simp [hx]
/-- Bytes turned into a string. -/
theorem sxo_b2s {S D : TypeId} {x : Operand} {p : Option Addr} {n c : Nat} {l : List UInt8} {tj tu : TInf} (ho : o.op = .convert S D x) (hg : guardE rg.ops o env = some true) (hx : ev env x = some (.s (.o (.slice p n c))))
    (hs : Tab.ti P S = some ti) (hsd : ti.d = .slice eT) (hd : Tab.ti P D = some tj) (hdd : tj.d = .str) (he : Tab.ti P eT = some tu) (hed : tu.d = .int .u8) (hdst : dstOk N o.dst = true) (hst : rg.flo.any (fun x => Nat.beq x.1 i) = false) (hv : Reads K mem ⟨p, n, c⟩ T0 1 encB l)
    (h : SXo cx K ds rg H R k (setE env o.dst (.s (.o (.string ⟨l.toArray⟩)))) mem) (hH : ∀ x ∈ H, rg.fr P x.idx i = true → x.chk (mem) := by repeat (first | exact hh_nil | refine hh_free rfl ?_ | refine hh_chk ⟨_, _, _, (by first | exact .head | exact .tail .head | exact .tail (.tail .head) | exact .tail (.tail (.tail .head)) | exact .tail (.tail (.tail (.tail .head)))), (by rfl)⟩ ?_ | refine hh_chk trivial ?_)) : SXo cx K ds rg H ((i, o) :: R) k env mem :=
  sxo_val (v := .s (.o (.string ⟨l.toArray⟩))) (pu := False) (chk := fun _ => False) hg (by rw [ho]; rfl) hdst (fun a w st => by
    have h1 : P.underlying S = some (.slice eT) := tab_slice hs hsd
    have h2 : P.underlying D = some .string := by have := (Tab.ok D tj hd).desc; rw [hdd] at this; exact this
    have h3 : P.underlying eT = some (.int .u8) := by have := (Tab.ok eT tu he).desc; rw [hed] at this; exact this
    have hrd := hv.at_ st.mem
    have hconv : (Conv.bytesToString (.slice p n c)).run P w = .ok (.string ⟨l.toArray⟩) w := by
      rcases hrd with ⟨e0, rfl⟩ | ⟨hU, hun, hvv⟩
      · simp only at e0
        subst e0
        cases p with
        | none => simp [Conv.bytesToString]; rfl
        | some a2 =>
          have hr := run_bytesToString (P := P) w a2 0 c [] (by simpa using run_loadCells_list (P := P) w a2 [] (fun j v h => by simp at h))
          rw [hr]; rfl
      rcases hvv.row with ⟨e1, rfl⟩ | ⟨b2, o2, cs2, e2, k2, g2, z2, w2, r2⟩
      · cases e1; simp [Conv.bytesToString]; rfl
      · cases e2
        obtain ⟨_, fz2, g2⟩ := hun _ _ _ g2
        have hrow : rowOf encB l = (l.map fun x => (x.toNat : Int)).map (Value.int .u8) := by
          have : ∀ l : List UInt8, rowOf encB l = (l.map fun x => (x.toNat : Int)).map (Value.int .u8) := by
            intro l; induction l with
            | nil => rfl
            | cons x l ih => rw [rowOf_cons, ih]; simp [flat, Ch.vals]
          exact this l
        have hcx : ∀ (j : Nat) (v : Value), ((l.map fun x => (x.toNat : Int)).map (Value.int .u8))[j]? = some v → w.cell? ((⟨b2, o2, none⟩ : Addr).add j) = some v := fun j v hv => by
          rw [Addr.add_plain]; exact vw_cell g2 (r2 j v (hrow ▸ hv))
        have hload := run_loadCells_list (P := P) w ⟨b2, o2, none⟩ ((l.map fun x => (x.toNat : Int)).map (Value.int .u8)) hcx
        have hr := run_bytesToString (P := P) w ⟨b2, o2, none⟩ l.length c (l.map fun x => (x.toNat : Int)) (by simpa using hload)
        rw [hr, foldl_push_byteCells]
        simp
    simp [execOp, ho, st.env.eval hx, convert, run_underlying h1, run_underlying h2, run_underlying h3, hconv]) (.still (by rw [ho]; simp [pureKind, hs, hd, hsd, hdd]) hst) (fun h => h.elim) (fun _ h => h.elim) hH h
end
section
variable {P : Program} [Tab P] {N : Nat} {cx : Cx P N} {K : Hp} {ds : List Deferred} {k : List Item} {env : Env} {mem r : List Ent} {rg : Rg} {H : List HE} {R : List (Nat × Oper)} {i : Nat} {o : Oper}
variable {T eT T0 : TypeId} {ti te : TInf}
/-- A byte of a hash. -/
theorem sxo_indexDig {x y : Operand} {D : Dig} {j : Int} {ik : IntKind} {tu : TInf} (ho : o.op = .index T x y) (hg : guardE rg.ops o env = some true) (hx : ev env x = some (.s (.g [.d D]))) (hy : ev env y = some (.s (.o (.int ik j))))
    (ht : Tab.ti P T = some ti) (hd : ti.d = .array 32 eT) (he : Tab.ti P eT = some tu) (hed : tu.d = .int .u8) (hsz : tu.size = 1) (hj : 0 ≤ j ∧ j < 32) (hdst : dstOk N o.dst = true)
    (h : ∀ c : UInt8, D.bs[j.toNat]? = some c → SXo cx K ds rg H R k (setE env o.dst (.s (.o (.int .u8 c.toNat)))) mem) (hH : ∀ x ∈ H, rg.fr P x.idx i = true → x.chk (mem) := by repeat (first | exact hh_nil | refine hh_free rfl ?_ | refine hh_chk ⟨_, _, _, (by first | exact .head | exact .tail .head | exact .tail (.tail .head) | exact .tail (.tail (.tail .head)) | exact .tail (.tail (.tail (.tail .head)))), (by rfl)⟩ ?_ | refine hh_chk trivial ?_)) : SXo cx K ds rg H ((i, o) :: R) k env mem := by
  have hlt : j.toNat < D.bs.length := by rw [D.h]; omega
  have hc : D.bs[j.toNat]? = some D.bs[j.toNat] := List.getElem?_eq_getElem hlt
  refine sxo_any (v := .s (.o (.int .u8 (D.bs[j.toNat]).toNat))) hg (by rw [ho]; rfl) hdst (fun a he' w => by
    have hu : P.underlying T = some (.array 32 eT) := by have := (Tab.ok T ti ht).desc; rw [hd] at this; exact this
    have hrun : (underlying T).run P w = .ok (.array 32 eT) w := run_underlying hu w
    have hsize := (Tab.ok eT tu he).size w
    have hagg := (Tab.ok eT tu he).isAgg w
    have hcell : (flat [Ch.d D]).toArray[j.toNat]? = some (Value.int .u8 (D.bs[j.toNat]).toNat) := by
      simp [flat, Ch.vals, Dig.vals, hc]
    have hcell2 : (flat [Ch.d D]).toArray[j.toNat]! = Value.int .u8 (D.bs[j.toNat]).toNat := by
      rw [getElem!_def, hcell]
    have hcell3 : (flat [Ch.d D])[j.toNat]? = some (Value.int .u8 (D.bs[j.toNat]).toNat) := by simpa using hcell
    rw [hsz] at hsize
    have hna : tu.agg = false := by simp [TInf.agg, hed]
    rw [hna] at hagg
    simp [execOp, ho, he'.eval hx, he'.eval hy, Instr.index, asIntOf, hrun, hj.1, hj.2, hsize, part, hagg, agv, hcell3]) hH (h _ hc)
/-- A map held against nil. -/
theorem sxo_eqMap {kT : TypeId} {x y : Operand} {u : TypeId} {p : Option Nat} (ho : o.op = .binOp .eql T x y u) (hg : guardE rg.ops o env = some true) (hx : ev env x = some (.s (.o (.map p)))) (hy : ev env y = some (.s (.o (.map none))))
    (ht : Tab.ti P T = some ti) (hd : ti.d = .map kT eT) (hdst : dstOk N o.dst = true)
    (h : SXo cx K ds rg H R k (setE env o.dst (.s (.o (.bool p.isNone)))) mem) (hH : ∀ x ∈ H, rg.fr P x.idx i = true → x.chk (mem) := by repeat (first | exact hh_nil | refine hh_free rfl ?_ | refine hh_chk ⟨_, _, _, (by first | exact .head | exact .tail .head | exact .tail (.tail .head) | exact .tail (.tail (.tail .head)) | exact .tail (.tail (.tail (.tail .head)))), (by rfl)⟩ ?_ | refine hh_chk trivial ?_)) : SXo cx K ds rg H ((i, o) :: R) k env mem :=
  sxo_any (v := .s (.o (.bool p.isNone))) hg (by rw [ho]; rfl) hdst (fun a hs w => exec_eq ho (hs.eval hx) (hs.eval hy) rfl rfl (by
    have hrun : (underlying T).run P w = .ok (.map kT eT) w := run_underlying (tab_map ht hd) w
    refine equal_run fun d => ?_
    cases p <;> simp only [Op.equalIn, Sem.run_bind, hrun, Result.andThen_ok] <;> rfl)) hH h
/-- A map put into an interface. -/
theorem sxo_mkIface {kT : TypeId} {x : Operand} {v : Value} (ho : o.op = .makeInterface T x) (hg : guardE rg.ops o env = some true) (hx : ev env x = some (.s (.o v)))
    (ht : Tab.ti P T = some ti) (hd : ti.d = .map kT eT) (hdst : dstOk N o.dst = true) (hst : rg.flo.any (fun x => Nat.beq x.1 i) = false)
    (h : SXo cx K ds rg H R k (setE env o.dst (.s (.o (.iface T v)))) mem) (hH : ∀ x ∈ H, rg.fr P x.idx i = true → x.chk (mem) := by repeat (first | exact hh_nil | refine hh_free rfl ?_ | refine hh_chk ⟨_, _, _, (by first | exact .head | exact .tail .head | exact .tail (.tail .head) | exact .tail (.tail (.tail .head)) | exact .tail (.tail (.tail (.tail .head)))), (by rfl)⟩ ?_ | refine hh_chk trivial ?_)) : SXo cx K ds rg H ((i, o) :: R) k env mem :=
  sxo_val (v := .s (.o (.iface T v))) (pu := False) (chk := fun _ => False) hg (by rw [ho]; rfl) hdst (fun a s w => by
    have hrun : ∀ w, (underlying T).run P w = .ok (.map kT eT) w := run_underlying (tab_map ht hd)
    simp [execOp, ho, w.env.eval hx, Instr.makeInterface, hrun]) (.still (by rw [ho]; rfl) hst) (fun h => h.elim) (fun _ h => h.elim) hH h
/-- ... and taken out. -/
theorem sxo_assertMap {kT : TypeId} {x : Operand} {v : Value} {S : TypeId} (ho : o.op = .typeAssert x S T false) (hg : guardE rg.ops o env = some true) (hx : ev env x = some (.s (.o (.iface T v))))
    (ht : Tab.ti P T = some ti) (hd : ti.d = .map kT eT) (hdst : dstOk N o.dst = true) (hst : rg.flo.any (fun x => Nat.beq x.1 i) = false)
    (h : SXo cx K ds rg H R k (setE env o.dst (.s (.o v))) mem) (hH : ∀ x ∈ H, rg.fr P x.idx i = true → x.chk (mem) := by repeat (first | exact hh_nil | refine hh_free rfl ?_ | refine hh_chk ⟨_, _, _, (by first | exact .head | exact .tail .head | exact .tail (.tail .head) | exact .tail (.tail (.tail .head)) | exact .tail (.tail (.tail (.tail .head)))), (by rfl)⟩ ?_ | refine hh_chk trivial ?_)) : SXo cx K ds rg H ((i, o) :: R) k env mem :=
  sxo_val (v := .s (.o v)) (pu := False) (chk := fun _ => False) hg (by rw [ho]; rfl) hdst (fun a s w => by
    have hrun : ∀ w, (underlying T).run P w = .ok (.map kT eT) w := run_underlying (tab_map ht hd)
    simp [execOp, ho, w.env.eval hx, Instr.typeAssert, hrun]) (.still (by rw [ho]; rfl) hst) (fun h => h.elim) (fun _ h => h.elim) hH h
/-- maps.clone. -/
theorem sxo_mapsClone {κ ν : Type} [DecidableEq κ] {ek : κ → SV1} {ev' : ν → SV1} {m : List (κ × ν)} {b : Nat} {cal x : Operand} {ts : Array TypeId} {f : FuncId} {fn : Func} {S : TypeId} (ho : o.op = .call { callee := .value cal, args := #[x], argTypes := ts }) (hg : guardE rg.ops o env = some true)
    (hc : ev env cal = some (.s (.o (.func (.func f) #[] #[])))) (hx : ev env x = some (.s (.o (.iface S (.map (some b)))))) (hf : P.funcs[f]? = some fn) (hn1 : (fn.name == "runtime.NumGoroutine") = false) (hn2 : fn.body.isNone = true) (hn3 : Extern.findNext fn = none) (hn4 : Extern.find fn = some Extern.MapsClone.clone)
    (hb : Pick mem (.map b ek ev' m) r) (hdst : dstOk N o.dst = true) (hl : rg.lt P i = false)
    (h : ∀ b', SXo cx K ds rg H R k (setE env o.dst (.s (.o (.iface S (.map (some b')))))) (.map b' ek ev' m :: mem)) (hH : ∀ b', ∀ x ∈ H, rg.fr P x.idx i = true → x.chk ((.map b' ek ev' m :: mem)) := by intro _; repeat (first | exact hh_nil | refine hh_free rfl ?_ | refine hh_chk ⟨_, _, _, (by first | exact .head | exact .tail .head | exact .tail (.tail .head) | exact .tail (.tail (.tail .head)) | exact .tail (.tail (.tail (.tail .head)))), (by rfl)⟩ ?_ | refine hh_chk trivial ?_)) : SXo cx K ds rg H ((i, o) :: R) k env mem :=
  sxo_act hl hg (by rw [ho]; rfl) fun a w st => by
    obtain ⟨es, clock, g1, g2, g3, g4⟩ := MSat.map (MSat.pick hb st.mem)
    have hrun : (execOp a.eval o).run P w = .ok (.value (.iface S (.map (some w.heap.size)))) { w with heap := w.heap.push (.map es clock) } := by
      have g1' : w.heap[b]? = some (.map es clock) := g1
      have hname : ¬ fn.name = "runtime.NumGoroutine" := by simpa using hn1
      have hbody : fn.body = none := by simpa using hn2
      have hgo : (getObj b).run P w = .ok (.map es clock) w := by simp [getObj, Sem.run, g1']
      have hcl : Extern.MapsClone.clone #[.iface S (.map (some b))] = (do
          let .map entries clock ← getObj b | stuck "maps.clone: a map expected"
          pure (.iface S (.map (some (← newObj (.map entries clock)))))) := rfl
      simp [execOp, ho, resolve, st.env.eval hc, st.env.eval hx, Deferred.ofValue, invoke, callFunc, hf, hname, hbody, hn3, hn4, hcl, hgo]
    unfold OW
    rw [hrun]
    refine ⟨_, _, _, ⟨by rw [Act.put_def]; exact st.ds, by rw [Act.put_size]; exact st.size, st.env.put st.size hdst (.s (.o (.iface S (.map (some w.heap.size))))), ?_, st.os, st.out⟩, hH _, h _⟩
    rw [vw_push]
    exact st.mem.new (vw_size w) ⟨es, clock, one_self _ _, g2, g3, g4⟩
end
section
variable {P : Program} [Tab P] {N : Nat} {cx : Cx P N} {K : Hp} {ds : List Deferred} {k : List Item} {env : Env} {mem r : List Ent} {rg : Rg} {H : List HE} {R : List (Nat × Oper)} {i : Nat} {o : Oper}
variable {T eT T2 : TypeId} {ti te : TInf} {α : Type} {enc : α → List Ch} {l lx : List α}
theorem rowOf_replicate (n : Nat) (z : α) : rowOf enc (List.replicate n z) = flat (List.replicate n (enc z)).flatten := by
  induction n with
  | zero => rfl
  | succ n ih => rw [List.replicate_succ, rowOf_cons, ih, List.replicate_succ, List.flatten_cons, flat_append]
/-- clear, of a slice whose array is its own. -/
theorem sxo_clear {x : Operand} {p : Option Addr} {n c wd : Nat} {z0 : Ch} {zs : List Ch} (z1 : α) (ho : o.op = .call { callee := .builtin .clear, args := #[x], argTypes := #[T] }) (hg : guardE rg.ops o env = some true)
    (hx : ev env x = some (.s (.o (.slice p n c)))) (ht : Tab.ti P T = some ti) (hd : ti.d = .slice eT) (he : Tab.ti P eT = some te) (hz : te.zero = z0 :: zs) (hzs : flatW te.zero = te.size) (hwd : te.size = wd) (hez : te.zero = enc z1) (h1 : oneCh (enc z1) = true)
    (hb : Pick mem (.vec ⟨p, n, c⟩ eT wd enc l) r) (hdst : dstOk N o.dst = true) (hl : rg.lt P i = false)
    (h : SXo cx K ds rg H R k (setE env o.dst (.s (.o undef))) (.vec ⟨p, n, c⟩ eT wd enc (List.replicate l.length z1) :: r)) (hH : ∀ x ∈ H, rg.fr P x.idx i = true → x.chk (.vec ⟨p, n, c⟩ eT wd enc (List.replicate l.length z1) :: r) := by repeat (first | exact hh_nil | refine hh_free rfl ?_ | refine hh_chk ⟨_, _, _, (by first | exact .head | exact .tail .head | exact .tail (.tail .head) | exact .tail (.tail (.tail .head)) | exact .tail (.tail (.tail (.tail .head)))), (by rfl)⟩ ?_ | refine hh_chk trivial ?_)) : SXo cx K ds rg H ((i, o) :: R) k env mem :=
  sxo_act hl hg (by rw [ho]; rfl) fun a w s => by
    subst hwd
    have hm := MSat.pick hb s.mem
    have hu : P.underlying T = some (.slice eT) := tab_slice ht hd
    obtain ⟨w', hrun, e1, e2, hm'⟩ : ∃ w', (Builtin.clear_ #[T] o.type #[.slice p n c]).run P w = .ok (.tuple #[]) w' ∧ w'.os = w.os ∧ w'.output = w.output ∧ MSat K (.vec ⟨p, n, c⟩ eT te.size enc (List.replicate l.length z1) :: r) (vw w') := by
      rcases hm.vec.row with ⟨e1, rfl⟩ | ⟨b, o1, cs, e1, k1, g1, z2, w1, r1⟩
      · cases e1
        exact ⟨w, by simp [Builtin.clear_, run_underlying hu], rfl, rfl, by simpa using hm⟩
      · cases e1
        by_cases h0 : l = []
        · subst h0
          exact ⟨w, by simp [Builtin.clear_, run_underlying hu], rfl, rfl, by simpa using hm⟩
        · have hpos : 0 < l.length := List.length_pos_iff.2 h0
          obtain ⟨inf, z, hi, hzz, hisz, hiby, hzc⟩ := tab_info he (by rw [hz]; simp)
          have hzv : (zeroValue eT).run P w = .ok z w := by simp [zeroValue, typeInfo, hi, hzz]
          have hcells : (Builtin.zeroCells z.cells l.length).toList = rowOf enc (List.replicate l.length z1) := by
            rw [rowOf_replicate, ← hez, hzc]
            unfold Builtin.zeroCells
            rw [show l.length * (flat te.zero).toArray.size = l.length * flatW te.zero by simp [flat_length], made_flat te.zero l.length]
          have hone : ∀ v ∈ rowOf enc (List.replicate l.length z1), v.oneCell' = true := oneRow (fun x hx => by rw [(List.mem_replicate.1 hx).2]; exact h1)
          have hwz : ∀ x, x ∈ List.replicate l.length z1 → flatW (enc x) = te.size := fun x hx => by rw [(List.mem_replicate.1 hx).2, ← hez, hzs]
          have hrl := rowOf_length hwz
          rw [List.length_replicate] at hrl
          have hfit : o1 + (rowOf enc (List.replicate l.length z1)).length ≤ cs.size := by
            rw [hrl]; exact Nat.le_trans (Nat.add_le_add_left (Nat.mul_le_mul_right _ k1) _) z2
          have hst := run_storeCells_at P b o1 eT (rowOf enc (List.replicate l.length z1)) 0 cs w (by exact g1) (by simpa using hfit) hone
          simp only [Nat.add_zero] at hst
          have hne : ∃ q, l.length = q + 1 := ⟨l.length - 1, by omega⟩
          obtain ⟨q, hq⟩ := hne
          refine ⟨w.setRow b (spliceA cs o1 (rowOf enc (List.replicate l.length z1))), ?_, rfl, rfl, ?_⟩
          · rw [hq] at hcells hst ⊢
            simp [Builtin.clear_, run_underlying hu, hzv, hcells, hst, spliceA]
          · rw [vw_setRow g1]
            refine hm.turn (fun h1 hv1 => ?_) (fun h1 _ _ => ?_)
            · rcases hv1 with ⟨q, _⟩ | ⟨b', o', cs0, q, _, _, q2, _⟩
              · cases q
              · cases q; simp [q2]
            · have := VecAt.ofRow (T := eT) (wd := te.size) (enc := enc) (l := List.replicate l.length z1) (b := b) (o := o1) (c := c) (put_self h1 b _) (by simpa using k1) (by rw [spliceA_size hfit]; exact z2) hwz (fun k v hv => by
                have hlt := (List.getElem?_eq_some_iff.1 hv).1
                rw [spliceA_in hfit hlt]; exact hv)
              show VecAt ⟨some ⟨b, o1, none⟩, l.length, c⟩ eT te.size enc (List.replicate l.length z1) _
              simpa using this
    have hex : (execOp a.eval o).run P w = .ok (.value (.tuple #[])) w' := by simp [execOp, ho, resolve, invoke, builtin, s.env.eval hx, hrun]
    unfold OW
    rw [hex]
    exact ⟨_, _, _, ⟨by rw [Act.put_def]; exact s.ds, by rw [Act.put_size]; exact s.size, s.env.put s.size hdst (.s (.o undef)), hm', e1.trans s.os, e2.trans s.out⟩, hH, h⟩
end
section
variable {P : Program} [Tab P] {N : Nat} {cx : Cx P N} {K : Hp} {ds : List Deferred} {k : List Item} {env : Env} {mem r : List Ent} {rg : Rg} {H : List HE} {R : List (Nat × Oper)} {i : Nat} {o : Oper}
variable {T eT T2 T3 : TypeId} {ti te : TInf} {α : Type} {enc : α → List Ch} {l lx : List α}
theorem run_copy_vec {w : World} {t t2 e : TypeId} {s sx : Sl} (ht : P.underlying t = some (.slice e)) (he : Tab.ti P e = some te) (hz : te.zero ≠ [])
    (hs : VecAt s e te.size enc l (vw w)) (hx : VecRd sx T2 te.size enc lx (vw w)) (h1 : ∀ x, oneCh (enc x) = true) (ty : TypeId) :
    ∃ w', (Builtin.copy_ #[t, t2] ty #[s.v, sx.v]).run P w = .ok (goInt (min lx.length l.length)) w' ∧ w'.os = w.os ∧ w'.output = w.output ∧
      ((w' = w ∧ lx.take (min lx.length l.length) ++ l.drop (min lx.length l.length) = l) ∨ ∃ b o cs cs', s.p = some ⟨b, o, none⟩ ∧ vw w b = some (.cells cs e (0, 0)) ∧ vw w' = put (vw w) b (.cells cs' e (0, 0)) ∧
        ∀ h : Hp, h b = some (.cells cs' e (0, 0)) → VecAt s e te.size enc (lx.take (min lx.length l.length) ++ l.drop (min lx.length l.length)) h) := by
  obtain ⟨inf, z, hi, hzz, hisz, hiby, hzc⟩ := tab_info he hz
  rcases hx with ⟨hn0, rfl⟩ | ⟨hU, hun, hx⟩
  · refine ⟨w, ?_, rfl, rfl, .inl ⟨rfl, by simp⟩⟩
    cases s with
    | mk p n c =>
      cases sx with
      | mk p2 n2 c2 =>
        simp only at hn0
        subst hn0
        cases p2 with
        | none =>
          have hf0 := run_firstCells_none (P := P) (w := w) te.size 0 0 c2
          cases p <;> simp [Builtin.copy_, run_underlying ht, sizeOf, typeInfo, hi, hisz, Builtin.lenOf, Sl.v, hf0, storeCells] <;> (congr 1 <;> omega)
        | some a2 =>
          have hf0 := run_firstCells_some (P := P) (w := w) te.size 0 a2 0 c2 [] (by simp) (fun j v h => by simp at h)
          cases p <;> simp [Builtin.copy_, run_underlying ht, sizeOf, typeInfo, hi, hisz, Builtin.lenOf, Sl.v, hf0, storeCells] <;> (congr 1 <;> omega)
  rcases hx.row with ⟨rfl, rfl⟩ | ⟨b2, o2, cs2, e2, k2, g2, z2, w2, r2⟩
  · refine ⟨w, ?_, rfl, rfl, .inl ⟨rfl, by simp⟩⟩
    cases s with
    | mk p n c => cases p <;> simp [Builtin.copy_, run_underlying ht, sizeOf, typeInfo, hi, Builtin.lenOf, Builtin.firstCells, storeCells] <;> (congr 1 <;> omega)
  · obtain ⟨_, fz2, g2⟩ := hun _ _ _ g2
    have hq : ∀ q, q ≤ lx.length → (Builtin.firstCells te.size q (.slice (some ⟨b2, o2, none⟩) lx.length sx.c)).run P w = .ok (rowOf enc (lx.take q)).toArray w := by
      intro q hq
      have hlen : (rowOf enc (lx.take q)).length = q * te.size := by
        rw [rowOf_length (fun x hx => w2 x (List.mem_of_mem_take hx)), List.length_take, Nat.min_eq_left hq]
      refine run_firstCells_some (P := P) (w := w) te.size q ⟨b2, o2, none⟩ lx.length sx.c (rowOf enc (lx.take q)) hlen fun j v hv => ?_
      rw [Addr.add_plain]
      refine vw_cell g2 (r2 j v ?_)
      have : rowOf enc lx = rowOf enc (lx.take q) ++ rowOf enc (lx.drop q) := by rw [← rowOf_append, List.take_append_drop]
      rw [this, List.getElem?_append_left (List.getElem?_eq_some_iff.1 hv).1]; exact hv
    rcases hs.row with ⟨rfl, rfl⟩ | ⟨b, o, cs, e1, k1, g1, z1, w1, r1⟩
    · refine ⟨w, ?_, rfl, rfl, .inl ⟨rfl, by simp⟩⟩
      have := hq 0 (Nat.zero_le _)
      rw [e2]
      simp [Builtin.copy_, run_underlying ht, sizeOf, typeInfo, hi, Builtin.lenOf, hisz, this]
      congr 1; omega
    · have hf := hq (min lx.length l.length) (Nat.min_le_left _ _)
      have hlen : (rowOf enc (lx.take (min lx.length l.length))).length = min lx.length l.length * te.size := by
        rw [rowOf_length (fun x hx => w2 x (List.mem_of_mem_take hx)), List.length_take, Nat.min_eq_left (Nat.min_le_left _ _)]
      have hfit : o + (rowOf enc (lx.take (min lx.length l.length))).length ≤ cs.size := by
        rw [hlen]; exact Nat.le_trans (Nat.add_le_add_left (Nat.mul_le_mul_right _ (Nat.le_trans (Nat.min_le_right _ _) k1)) _) z1
      have hst := run_storeCells_at P b o e (rowOf enc (lx.take (min lx.length l.length))) 0 cs w (by exact g1) (by simpa using hfit) (oneRow fun x _ => h1 x)
      simp only [Nat.add_zero] at hst
      refine ⟨w.setRow b (spliceA cs o (rowOf enc (lx.take (min lx.length l.length)))), ?_, rfl, rfl, .inr ⟨b, o, cs, _, by rw [e1], g1, vw_setRow g1, fun h hb => ?_⟩⟩
      · rw [e2, e1]
        have hmin : Nat.min lx.length l.length = min lx.length l.length := rfl
        simp [Builtin.copy_, run_underlying ht, sizeOf, typeInfo, hi, hisz, Builtin.lenOf, hmin, hf, hst, spliceA]
        congr 1; omega
      · have hnl : (lx.take (min lx.length l.length) ++ l.drop (min lx.length l.length)).length = l.length := by
          rw [List.length_append, List.length_take, List.length_drop]; omega
        have := VecAt.ofRow (T := e) (wd := te.size) (enc := enc) (l := lx.take (min lx.length l.length) ++ l.drop (min lx.length l.length)) (b := b) (o := o) (c := s.c) hb (by rw [hnl]; exact k1) (by rw [spliceA_size hfit]; exact z1)
          (fun x hx => by
            rcases List.mem_append.1 hx with hx | hx
            · exact w2 x (List.mem_of_mem_take hx)
            · exact w1 x (List.mem_of_mem_drop hx)) (fun k v hv => by
            rw [rowOf_append] at hv
            by_cases hk : k < (rowOf enc (lx.take (min lx.length l.length))).length
            · rw [List.getElem?_append_left hk] at hv
              rw [spliceA_in hfit hk]; exact hv
            · rw [List.getElem?_append_right (by omega)] at hv
              rw [spliceA_out hfit (.inr (by omega))]
              refine r1 k v ?_
              have hrw : rowOf enc l = rowOf enc (l.take (min lx.length l.length)) ++ rowOf enc (l.drop (min lx.length l.length)) := by rw [← rowOf_append, List.take_append_drop]
              have hlt2 : (rowOf enc (l.take (min lx.length l.length))).length = min lx.length l.length * te.size := by
                rw [rowOf_length (fun x hx => w1 x (List.mem_of_mem_take hx)), List.length_take, Nat.min_eq_left (Nat.min_le_right _ _)]
              rw [hrw, List.getElem?_append_right (by omega), hlt2, ← hlen]; exact hv)
        rw [hnl] at this
        rw [e1]; exact this
/-- copy, into a slice whose array is its own. -/
theorem sxo_copy {x y : Operand} {p p2 : Option Addr} {n c n2 c2 wd : Nat} {z0 : Ch} {zs : List Ch} (ho : o.op = .call { callee := .builtin .copy, args := #[x, y], argTypes := #[T, T3] }) (hg : guardE rg.ops o env = some true)
    (hx : ev env x = some (.s (.o (.slice p n c)))) (hy : ev env y = some (.s (.o (.slice p2 n2 c2)))) (ht : Tab.ti P T = some ti) (hd : ti.d = .slice eT) (he : Tab.ti P eT = some te) (hz : te.zero = z0 :: zs) (hwd : te.size = wd)
    (hb : Pick mem (.vec ⟨p, n, c⟩ eT wd enc l) r) (hv : Reads K r ⟨p2, n2, c2⟩ T2 wd enc lx) (h1 : ∀ x, oneCh (enc x) = true) (hdst : dstOk N o.dst = true) (hl : rg.lt P i = false)
    (h : SXo cx K ds rg H R k (setE env o.dst (.s (.o (.int .i64 (min lx.length l.length : Nat))))) (.vec ⟨p, n, c⟩ eT wd enc (lx.take (min lx.length l.length) ++ l.drop (min lx.length l.length)) :: r)) (hH : ∀ x ∈ H, rg.fr P x.idx i = true → x.chk (.vec ⟨p, n, c⟩ eT wd enc (lx.take (min lx.length l.length) ++ l.drop (min lx.length l.length)) :: r) := by repeat (first | exact hh_nil | refine hh_free rfl ?_ | refine hh_chk ⟨_, _, _, (by first | exact .head | exact .tail .head | exact .tail (.tail .head) | exact .tail (.tail (.tail .head)) | exact .tail (.tail (.tail (.tail .head)))), (by rfl)⟩ ?_ | refine hh_chk trivial ?_)) : SXo cx K ds rg H ((i, o) :: R) k env mem :=
  sxo_act hl hg (by rw [ho]; rfl) fun a w s => by
    subst hwd
    have hm := MSat.pick hb s.mem
    obtain ⟨w', hrun, hos, hout, hc⟩ := run_copy_vec (P := P) (t2 := T3) (s := ⟨p, n, c⟩) (sx := ⟨p2, n2, c2⟩) (tab_slice ht hd) he (by rw [hz]; simp) hm.vec (hv.at_ hm.drop) h1 o.type
    have hex : (execOp a.eval o).run P w = .ok (.value (.int .i64 (min lx.length l.length : Nat))) w' := by
      simp only [Sl.v, goInt] at hrun
      simp [execOp, ho, resolve, invoke, builtin, s.env.eval hx, s.env.eval hy, hrun]
      omega
    unfold OW
    rw [hex]
    refine ⟨_, _, _, ⟨by rw [Act.put_def]; exact s.ds, by rw [Act.put_size]; exact s.size, s.env.put s.size hdst (.s (.o (.int .i64 (min lx.length l.length : Nat)))), ?_, hos.trans s.os, hout.trans s.out⟩, hH, h⟩
    rcases hc with ⟨rfl, e⟩ | ⟨b, o1, cs, cs', e1, e2, e3, e4⟩
    · rw [e]; exact hm
    · rw [e3]
      refine hm.turn (fun h1 hv1 => ?_) (fun h1 _ _ => e4 _ (put_self _ _ _))
      rcases hv1 with ⟨q, _⟩ | ⟨b', o', cs0, q, _, _, q2, _⟩
      · have q3 := q.symm.trans e1; cases q3
      · have q3 := q.symm.trans e1; cases q3; simp [q2]
end
section
variable {P : Program} [Tab P] {N : Nat} {cx : Cx P N} {K : Hp} {ds : List Deferred} {k : List Item} {env : Env} {mem r : List Ent} {rg : Rg} {H : List HE} {R : List (Nat × Oper)} {i : Nat} {o : Oper}
variable {T eT T0 : TypeId} {ti te : TInf} {α : Type} {enc : α → List Ch} {l : List α} {wd : Nat}
/-- A slice from its beginning: the same place. -/
theorem sxo_slice0 {x : Operand} {lo hi : Option Operand} {l' h : Option Int} {p : Option Addr} {n c : Nat} (ho : o.op = .slice T x lo hi none) (hg : guardE rg.ops o env = some true) (hx : ev env x = some (.s (.o (.slice p n c))))
    (hlo : optE env lo = some l') (hhi : optE env hi = some h) (ht : Tab.ti P T = some ti) (hd : ti.d = .slice eT) (he : Tab.ti P eT = some te) (hdst : dstOk N o.dst = true) (h0 : loOf l' = 0) (hv : Reads K mem ⟨p, n, c⟩ T0 wd enc l)
    (hb : 0 ≤ hiOf l.length h ∧ hiOf l.length h ≤ l.length)
    (hn : SXo cx K ds rg H R k (setE env o.dst (.s (.o (.slice p (hiOf l.length h).toNat c)))) mem)
    (hH : ∀ x ∈ H, rg.fr P x.idx i = true → x.chk (mem) := by repeat (first | exact hh_nil | refine hh_free rfl ?_ | refine hh_chk ⟨_, _, _, (by first | exact .head | exact .tail .head | exact .tail (.tail .head) | exact .tail (.tail (.tail .head)) | exact .tail (.tail (.tail (.tail .head)))), (by rfl)⟩ ?_ | refine hh_chk trivial ?_)) : SXo cx K ds rg H ((i, o) :: R) k env mem := by
  by_cases hl : n = l.length ∧ n ≤ c
  · obtain ⟨rfl, hc⟩ := hl
    refine sxo_any (v := .s (.o (.slice p (hiOf l.length h).toNat c))) hg (by rw [ho]; rfl) hdst (fun a hs w => ?_) hH hn
    have hrun : (underlying T).run P w = .ok (.slice eT) w := run_underlying (tab_slice ht hd) w
    have := run_bounds (isS := true) (len := l.length) (cap := c) hs hlo hhi (by omega) (P := P) w
    have hsz := (Tab.ok eT te he).size w
    have hpp : p.map (·.add 0) = p := by
      cases p with
      | none => rfl
      | some a => cases a; simp [Addr.add]
    rw [h0] at this
    simp [execOp, ho, hs.eval hx, Instr.sliceAt, Instr.slice, hrun, this, hsz]
    intro _; simpa using hpp
  · exact sxo_void fun a w s => hl ⟨hv.len s.mem, (hv.at_ s.mem).cap⟩
end
section
variable {P : Program} [Tab P] {N : Nat} {cx : Cx P N} {K : Hp} {ds : List Deferred} {k : List Item} {env : Env} {mem r : List Ent} {rg : Rg} {H : List HE} {R : List (Nat × Oper)} {i : Nat} {o : Oper}
variable {T eT T0 : TypeId} {ti te : TInf} {α : Type} {enc : α → List Ch} {l : List α} {wd : Nat}
/-- len of a slice, that may come later. -/
theorem sxo_lenVF {x : Operand} {p : Option Addr} {n c : Nat} (ho : o.op = .call { callee := .builtin .len, args := #[x], argTypes := #[T] }) (hg : guardE rg.ops o env = some true) (hx : ev env x = some (.s (.o (.slice p n c))))
    (ht : Tab.ti P T = some ti) (hd : ti.d = .slice eT) (hdst : dstOk N o.dst = true)
    (h : SXo cx K ds rg (⟨i, fun _ => True⟩ :: H) R k (setE env o.dst (.s (.o (.int .i64 n)))) mem) (hH : ∀ x ∈ H, rg.fr P x.idx i = true → x.chk (mem) := by repeat (first | exact hh_nil | refine hh_free rfl ?_ | refine hh_chk ⟨_, _, _, (by first | exact .head | exact .tail .head | exact .tail (.tail .head) | exact .tail (.tail (.tail .head)) | exact .tail (.tail (.tail (.tail .head)))), (by rfl)⟩ ?_ | refine hh_chk trivial ?_)) : SXo cx K ds rg H ((i, o) :: R) k env mem :=
  have key : ∀ a, ESat env a → ∀ w, (execOp a.eval o).run P w = .ok (.value (.int .i64 n)) w := fun a he w => by
    have hrun : (underlying T).run P w = .ok (.slice eT) w := run_underlying (tab_slice ht hd) w
    simp [execOp, ho, resolve, invoke, builtin, he.eval hx, Builtin.len_, hrun, goInt]
  sxo_val (v := .s (.o (.int .i64 n))) (pu := False) (chk := fun _ => True) hg (by rw [ho]; rfl) hdst (fun a w s => key a s.env w) .keep (fun h => h.elim) (fun _ _ a he w _ => key a he w) hH h
theorem sxo_lenF {x : Operand} {p : Option Addr} {n c : Nat} (ho : o.op = .call { callee := .builtin .len, args := #[x], argTypes := #[T] }) (hg : guardE rg.ops o env = some true) (hx : ev env x = some (.s (.o (.slice p n c))))
    (ht : Tab.ti P T = some ti) (hd : ti.d = .slice eT) (hv : Reads K mem ⟨p, n, c⟩ T0 wd enc l) (hdst : dstOk N o.dst = true)
    (h : SXo cx K ds rg (⟨i, fun _ => True⟩ :: H) R k (setE env o.dst (.s (.o (.int .i64 l.length)))) mem) (hH : ∀ x ∈ H, rg.fr P x.idx i = true → x.chk (mem) := by repeat (first | exact hh_nil | refine hh_free rfl ?_ | refine hh_chk ⟨_, _, _, (by first | exact .head | exact .tail .head | exact .tail (.tail .head) | exact .tail (.tail (.tail .head)) | exact .tail (.tail (.tail (.tail .head)))), (by rfl)⟩ ?_ | refine hh_chk trivial ?_)) : SXo cx K ds rg H ((i, o) :: R) k env mem := by
  by_cases hn : n = l.length
  · subst hn; exact sxo_lenVF ho hg hx ht hd hdst h hH
  · exact sxo_void fun a w s => hn (hv.at_ s.mem).len
end
end Go.SX
