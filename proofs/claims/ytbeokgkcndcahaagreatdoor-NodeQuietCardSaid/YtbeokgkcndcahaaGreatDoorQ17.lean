/-
  What grows without a slice to append, MakeNoZero, cap, slices told by their places, a copy within one row.
  journal: numbers, heads; bytes.Repeat, slices.Grow and slices.Concat as they are used there.
  slices.Concat of byte slices; steps that are done as long as they are OK.
  Steps that are done as long as they are OK.
  journal: the steps of put.
-/
import Derived.Test.YtbeokgkcndcahaaGreatDoorQ13
import GoSem.Extern.BytealgMakeNoZero
import Derived.Test.YtbeokgkcndcahaaGreatDoorQ16
set_option linter.all false
namespace Go.SX
section
variable {P : Program} [Tab P] {N : Nat} {cx : Cx P N} {K : Hp} {ds : List Deferred} {k : List Item} {env : Env} {mem r : List Ent} {rg : Rg} {H : List HE} {R : List (Nat × Oper)} {i : Nat} {o : Oper}
variable {T eT T0 : TypeId} {ti te : TInf} {α : Type} {enc : α → List Ch} {l : List α} {wd : Nat}
/-- cap of a slice. -/
theorem sxo_cap {x : Operand} {p : Option Addr} {n c : Nat} (ho : o.op = .call { callee := .builtin .cap, args := #[x], argTypes := #[T] }) (hg : guardE rg.ops o env = some true) (hx : ev env x = some (.s (.o (.slice p n c))))
    (ht : Tab.ti P T = some ti) (hd : ti.d = .slice eT) (hdst : dstOk N o.dst = true) (hst : rg.flo.any (fun x => Nat.beq x.1 i) = false)
    (h : SXo cx K ds rg H R k (setE env o.dst (.s (.o (.int .i64 c)))) mem) (hH : ∀ x ∈ H, rg.fr P x.idx i = true → x.chk (mem) := by repeat (first | exact hh_nil | refine hh_free rfl ?_ | refine hh_chk ⟨_, _, _, (by first | exact .head | exact .tail .head | exact .tail (.tail .head) | exact .tail (.tail (.tail .head)) | exact .tail (.tail (.tail (.tail .head)))), (by rfl)⟩ ?_ | refine hh_chk trivial ?_)) : SXo cx K ds rg H ((i, o) :: R) k env mem :=
  sxo_val (v := .s (.o (.int .i64 c))) (pu := False) (chk := fun _ => False) hg (by rw [ho]; rfl) hdst (fun a w s => by
    have hrun : (underlying T).run P w = .ok (.slice eT) w := run_underlying (tab_slice ht hd) w
    simp [execOp, ho, resolve, invoke, builtin, s.env.eval hx, Builtin.cap_, hrun, goInt]) (.still (by rw [ho]; rfl) hst) (fun h => h.elim) (fun _ h => h.elim) hH h
/-- append(nil, make(n)...). -/
theorem sxo_appMake {x y : Operand} {U : TypeId} {n : Int} {tu : TInf} (ho : o.op = .call { callee := .builtin .append, args := #[x, y], argTypes := #[T, U] }) (hg : guardE rg.ops o env = some true)
    (hx : ev env x = some (.s (.o (.slice none 0 0)))) (hy : ev env y = some (.s (.o (.int .i64 n)))) (ht : Tab.ti P T = some ti) (hd : ti.d = .slice eT) (hu : Tab.ti P U = some tu) (hud : tu.d = .int .i64) (he : Tab.ti P eT = some te) (hz : te.zero = [.c (.int .u8 0)]) (hsz : te.size = 1) (hby : te.bytes = 1)
    (hn : 0 < n ∧ n ≤ 1000000) (hdst : dstOk N o.dst = true) (hl : rg.lt P i = false)
    (h : ∀ b c, SXo cx K ds rg H R k (setE env o.dst (.s (.o (.slice (some ⟨b, 0, none⟩) n.toNat c)))) (.vec ⟨some ⟨b, 0, none⟩, n.toNat, c⟩ eT 1 encB (List.replicate n.toNat 0) :: mem))
    (hH : ∀ b c, ∀ x ∈ H, rg.fr P x.idx i = true → x.chk (.vec ⟨some ⟨b, 0, none⟩, n.toNat, c⟩ eT 1 encB (List.replicate n.toNat 0) :: mem) := by intro _ _; repeat (first | exact hh_nil | refine hh_free rfl ?_ | refine hh_chk ⟨_, _, _, (by first | exact .head | exact .tail .head | exact .tail (.tail .head) | exact .tail (.tail (.tail .head)) | exact .tail (.tail (.tail (.tail .head)))), (by rfl)⟩ ?_ | refine hh_chk trivial ?_)) : SXo cx K ds rg H ((i, o) :: R) k env mem :=
  sxo_act hl hg (by rw [ho]; rfl) fun a w s => by
    obtain ⟨inf, z, hi, hzz, hisz, hiby, hzc⟩ := tab_info he (by rw [hz]; simp)
    obtain ⟨q, rfl⟩ := Int.eq_ofNat_of_zero_le (Int.le_of_lt hn.1)
    have hq : 0 < q ∧ q ≤ 1000000 := by omega
    have h1 : P.underlying T = some (.slice eT) := tab_slice ht hd
    have h2 : P.underlying U = some (.int .i64) := by have := (Tab.ok U tu hu).desc; rw [hud] at this; exact this
    have hwr : IntKind.i64.wrap (q : Int) = q := wrap_i64 (by omega)
    have hsz' : inf.size = 1 := by rw [hisz, hsz]
    have hby' : inf.bytes = 1 := by rw [hiby, hby]
    have hrun : (Builtin.append_ #[T, U] o.type #[.slice none 0 0, .int .i64 q]).run P w = .ok (.slice (some ⟨w.heap.size, 0, none⟩) q (grownCap w q 0 eT)) (w.drew.alloc (.cells (Builtin.zeroCells z.cells q ++ Builtin.zeroCells z.cells (grownCap w q 0 eT - q)) eT)) := by
      have hn0 : q ≠ 0 := by omega
      have c1 : ¬ ((q : Int) < 0) := by omega
      have c2 : ¬ (281474976710656 < (q : Int)) := by omega
      have c3 : ¬ (9223372036854775807 < (q : Int)) := by omega
      have c5 : ¬ ((q : Int) ≤ 0) := by omega
      have c6 : ¬ (9223372036854775807 < max (q : Int) 0) := by omega
      have c4 : ¬ (281474976710656 < Builtin.nextslicecap q 0) := by rw [nextslicecap_zero hq.1]; omega
      simp [Builtin.append_, run_underlying h1, run_underlying h2, sizeOf, typeInfo, zeroValue, hi, hzz, hsz', hby', asInt, asIntOf, hwr, Builtin.firstCells, hn0, c1, c2, c3, c4, c5, c6, Question.forced, newRow, grownCap]
    have hex : (execOp a.eval o).run P w = .ok (.value (.slice (some ⟨w.heap.size, 0, none⟩) q (grownCap w q 0 eT))) (w.drew.alloc (.cells (Builtin.zeroCells z.cells q ++ Builtin.zeroCells z.cells (grownCap w q 0 eT - q)) eT)) := by
      simp [execOp, ho, resolve, invoke, builtin, s.env.eval hx, s.env.eval hy, hrun]
    unfold OW
    rw [hex]
    refine ⟨_, _, _, ⟨by rw [Act.put_def]; exact s.ds, by rw [Act.put_size]; exact s.size, s.env.put s.size hdst (.s (.o (.slice (some ⟨w.heap.size, 0, none⟩) q (grownCap w q 0 eT)))), ?_, s.os, s.out⟩, hH _ _, h _ _⟩
    rw [vw_alloc]
    refine s.mem.new (vw_size w) ?_
    have hge := grownCap_ge w q 0 eT
    have hzc' : z.cells = #[.int .u8 0] := by rw [hzc, hz]; rfl
    refine .inr ⟨w.heap.size, 0, _, rfl, by simp, hge, one_self _ _, ?_, fun _ _ => rfl, ?_⟩
    · simp [Builtin.zeroCells, hzc']; omega
    · intro j x hx j2 v hv
      have hjl := (List.getElem?_eq_some_iff.1 hx).1
      have hx0 := List.mem_of_getElem? hx
      simp only [Int.ofNat_eq_natCast, Int.toNat_natCast, List.length_replicate] at hjl
      rw [(List.mem_replicate.1 hx0).2] at hv
      have hj2 : j2 = 0 := by have := (List.getElem?_eq_some_iff.1 hv).1; simp [flat, Ch.vals] at this; omega
      subst hj2
      simp [flat, Ch.vals] at hv
      subst hv
      have hlt : j < (Builtin.zeroCells z.cells q).size := by simp [Builtin.zeroCells, hzc']; omega
      simp only [Nat.zero_add, Nat.mul_one, Nat.add_zero]
      rw [Array.getElem?_append_left hlt]
      simp [Builtin.zeroCells, hzc', Nat.mod_one, hjl]
end
section
variable {P : Program} [Tab P] {N : Nat} {cx : Cx P N} {K : Hp} {ds : List Deferred} {k : List Item} {env : Env} {mem r : List Ent} {rg : Rg} {H : List HE} {R : List (Nat × Oper)} {i : Nat} {o : Oper}
variable {T eT T0 : TypeId} {ti te : TInf} {α : Type} {enc : α → List Ch} {l : List α} {wd : Nat}
def dgB : Nat → Nat → List UInt8
  | 0, _ => []
  | n + 1, t => UInt8.ofNat (t % 256) :: dgB n (t / 256)
theorem dgB_length : ∀ n t, (dgB n t).length = n
  | 0, _ => rfl
  | n + 1, t => by simp [dgB, dgB_length n]
theorem digits_eq : ∀ (n t : Nat) (acc : Array Value), Extern.BytealgMakeNoZero.digits n t acc = acc ++ ((dgB n t).map fun x => Value.int .u8 x.toNat).toArray
  | 0, _, acc => by simp [Extern.BytealgMakeNoZero.digits, dgB]
  | n + 1, t, acc => by
    rw [Extern.BytealgMakeNoZero.digits, digits_eq n]
    have : (UInt8.ofNat (t % 256)).toNat = t % 256 := by simp
    apply Array.toList_inj.1
    simp [dgB, this]
/-- MakeNoZero: bytes, whatever they are. -/
theorem sxo_makeNoZero {cal x : Operand} {ts ps : Array TypeId} {f : FuncId} {fn : Func} {n : Int} (ho : o.op = .call { callee := .value cal, args := #[x], argTypes := ts }) (hg : guardE rg.ops o env = some true)
    (hc : ev env cal = some (.s (.o (.func (.func f) #[] #[])))) (hx : ev env x = some (.s (.o (.int .i64 n)))) (hf : P.funcs[f]? = some fn) (hn1 : (fn.name == "runtime.NumGoroutine") = false) (hn2 : fn.body.isNone = true) (hn3 : Extern.findNext fn = none)
    (hn4 : Extern.find fn = some (Extern.BytealgMakeNoZero.makeNoZero ps #[T])) (ht : Tab.ti P T = some ti) (hd : ti.d = .slice eT)
    (hn : 0 ≤ n ∧ n ≤ 1000000) (hdst : dstOk N o.dst = true) (hl : rg.lt P i = false)
    (h : ∀ b c (l : List UInt8), l.length = n.toNat → n.toNat ≤ c → SXo cx K ds rg H R k (setE env o.dst (.s (.o (.slice (some ⟨b, 0, none⟩) n.toNat c)))) (.vec ⟨some ⟨b, 0, none⟩, n.toNat, c⟩ eT 1 encB l :: mem))
    (hH : ∀ b c l, ∀ x ∈ H, rg.fr P x.idx i = true → x.chk (.vec ⟨some ⟨b, 0, none⟩, n.toNat, c⟩ eT 1 encB (l : List UInt8) :: mem) := by intro _ _ _; repeat (first | exact hh_nil | refine hh_free rfl ?_ | refine hh_chk ⟨_, _, _, (by first | exact .head | exact .tail .head | exact .tail (.tail .head) | exact .tail (.tail (.tail .head)) | exact .tail (.tail (.tail (.tail .head)))), (by rfl)⟩ ?_ | refine hh_chk trivial ?_)) : SXo cx K ds rg H ((i, o) :: R) k env mem :=
  sxo_act hl hg (by rw [ho]; rfl) fun a w s => by
    obtain ⟨q, rfl⟩ := Int.eq_ofNat_of_zero_le hn.1
    have hu : P.underlying T = some (.slice eT) := tab_slice ht hd
    have hge := grownCap_ge w q 0 eT
    obtain ⟨bs, hrun⟩ : ∃ bs, (Extern.BytealgMakeNoZero.makeNoZero ps #[T] #[.int .i64 (q : Int)]).run P w = .ok (.slice (some ⟨w.heap.size, 0, none⟩) q (grownCap w q 0 eT)) (w.drew.drew.alloc (.cells (Extern.BytealgMakeNoZero.digits (grownCap w q 0 eT) bs #[]) eT)) := by
      have c1 : ¬ ((q : Int) < 0) := by omega
      have c2 : ¬ (281474976710656 < (q : Int)) := by omega
      have hdef : Extern.BytealgMakeNoZero.makeNoZero ps #[T] #[.int .i64 (q : Int)] = (do
          let .slice elem ← underlying T | stuck "bytealg.MakeNoZero: slice type expected"
          if (q : Int) < 0 || (q : Int) > 2 ^ 48 then runtimePanic (.error "makeslice: len out of range")
          let cap ← choose (.appendCap (q : Int).toNat 0 elem)
          askRoom cap
          let bytes ← choose (.extern "internal/bytealg.MakeNoZero.bytes" 0)
          let a ← newRow elem (Extern.BytealgMakeNoZero.digits cap bytes #[])
          pure (.slice (some a) (q : Int).toNat cap)) := rfl
      refine ⟨((Question.extern "internal/bytealg.MakeNoZero.bytes" 0).cut (w.tape (w.drawn + 1) (.extern "internal/bytealg.MakeNoZero.bytes" 0))), ?_⟩
      rw [hdef]
      simp [run_underlying hu, c1, c2, Question.forced, newRow, grownCap]
    have hname : ¬ fn.name = "runtime.NumGoroutine" := by simpa using hn1
    have hbody : fn.body = none := by simpa using hn2
    have hex : (execOp a.eval o).run P w = .ok (.value (.slice (some ⟨w.heap.size, 0, none⟩) q (grownCap w q 0 eT))) (w.drew.drew.alloc (.cells (Extern.BytealgMakeNoZero.digits (grownCap w q 0 eT) bs #[]) eT)) := by
      simp [execOp, ho, resolve, s.env.eval hc, s.env.eval hx, Deferred.ofValue, invoke, callFunc, hf, hname, hbody, hn3, hn4, hrun]
    unfold OW
    rw [hex]
    have hlen : ((dgB (grownCap w q 0 eT) bs).take q).length = q := by rw [List.length_take, dgB_length]; omega
    refine ⟨_, _, _, ⟨by rw [Act.put_def]; exact s.ds, by rw [Act.put_size]; exact s.size, s.env.put s.size hdst (.s (.o (.slice (some ⟨w.heap.size, 0, none⟩) q (grownCap w q 0 eT)))), ?_, s.os, s.out⟩, hH _ _ ((dgB (grownCap w q 0 eT) bs).take q), h _ _ ((dgB (grownCap w q 0 eT) bs).take q) hlen hge⟩
    rw [vw_alloc]
    refine s.mem.new (vw_size w) ?_
    refine .inr ⟨w.heap.size, 0, _, rfl, hlen.symm, hge, one_self _ _, ?_, fun _ _ => rfl, ?_⟩
    · rw [digits_eq]; simp [dgB_length]
    · intro j x hx j2 v hv
      have hj2 : j2 = 0 := by have := (List.getElem?_eq_some_iff.1 hv).1; simp [flat, Ch.vals] at this; omega
      subst hj2
      simp [flat, Ch.vals] at hv
      subst hv
      have hjl := (List.getElem?_eq_some_iff.1 hx).1
      rw [hlen] at hjl
      have hx2 : (dgB (grownCap w q 0 eT) bs)[j]? = some x := by rw [List.getElem?_take_of_lt hjl] at hx; exact hx
      rw [digits_eq]
      simp [hx2]
end
section
variable {P : Program} [Tab P] {N : Nat} {cx : Cx P N} {K : Hp} {ds : List Deferred} {k : List Item} {env : Env} {mem r : List Ent} {rg : Rg} {H : List HE} {R : List (Nat × Oper)} {i : Nat} {o : Oper}
variable {T eT T2 : TypeId} {ti te : TInf}
/-- Less room. -/
theorem vec_cap {α : Type} {p : Option Addr} {n c c' wd : Nat} {enc : α → List Ch} {l : List α} {h : Hp} (v : VecAt ⟨p, n, c⟩ eT wd enc l h) (h1 : n ≤ c') (h2 : c' ≤ c) : VecAt ⟨p, n, c'⟩ eT wd enc l h := by
  rcases v with ⟨e1, e2, e3, e4⟩ | ⟨b, o, cs, e1, e2, e3, e4, e5, e6, e7⟩
  · exact .inl ⟨e1, e2, by simp only at *; omega, e4⟩
  · exact .inr ⟨b, o, cs, e1, e2, h1, e4, Nat.le_trans (Nat.add_le_add_left (Nat.mul_le_mul_right _ h2) _) e5, e6, e7⟩
/-- A slice of a slice whose place is told. -/
theorem sxo_sliceX {x : Operand} {lo hi : Option Operand} {l' h : Option Int} {b o1 n c : Nat} (ho : o.op = .slice T x lo hi none) (hg : guardE rg.ops o env = some true) (hx : ev env x = some (.s (.o (.slice (some ⟨b, o1, none⟩) n c))))
    (hlo : optE env lo = some l') (hhi : optE env hi = some h) (ht : Tab.ti P T = some ti) (hd : ti.d = .slice eT) (he : Tab.ti P eT = some te) (hsz : te.size = 1) (hdst : dstOk N o.dst = true)
    (hb : 0 ≤ loOf l' ∧ loOf l' ≤ hiOf n h ∧ hiOf n h ≤ c ∧ loOf l' < c)
    (hn : SXo cx K ds rg H R k (setE env o.dst (.s (.o (.slice (some ⟨b, o1 + (loOf l').toNat, none⟩) ((hiOf n h).toNat - (loOf l').toNat) (c - (loOf l').toNat))))) mem)
    (hH : ∀ x ∈ H, rg.fr P x.idx i = true → x.chk (mem) := by repeat (first | exact hh_nil | refine hh_free rfl ?_ | refine hh_chk ⟨_, _, _, (by first | exact .head | exact .tail .head | exact .tail (.tail .head) | exact .tail (.tail (.tail .head)) | exact .tail (.tail (.tail (.tail .head)))), (by rfl)⟩ ?_ | refine hh_chk trivial ?_)) : SXo cx K ds rg H ((i, o) :: R) k env mem := by
  refine sxo_any (v := .s (.o (.slice (some ⟨b, o1 + (loOf l').toNat, none⟩) ((hiOf n h).toNat - (loOf l').toNat) (c - (loOf l').toNat)))) hg (by rw [ho]; rfl) hdst (fun a hs w => ?_) hH hn
  have hrun : (underlying T).run P w = .ok (.slice eT) w := run_underlying (tab_slice ht hd) w
  have := run_bounds (isS := true) (len := n) (cap := c) hs hlo hhi (by omega) (P := P) w
  have hs2 := (Tab.ok eT te he).size w
  rw [hsz] at hs2
  have hne : ¬ c = (loOf l').toNat := by omega
  simp [execOp, ho, hs.eval hx, Instr.sliceAt, Instr.slice, hrun, this, hs2, hne, Addr.add_plain]
/-- A full slice expression, from the beginning. -/
theorem sxo_sliceM {x y z : Operand} {n m : Int} {k1 k2 : IntKind} {b o1 n0 c : Nat} (ho : o.op = .slice T x none (some y) (some z)) (hg : guardE rg.ops o env = some true) (hx : ev env x = some (.s (.o (.slice (some ⟨b, o1, none⟩) n0 c))))
    (hy : ev env y = some (.s (.o (.int k1 n)))) (hz : ev env z = some (.s (.o (.int k2 m)))) (ht : Tab.ti P T = some ti) (hd : ti.d = .slice eT) (he : Tab.ti P eT = some te) (hdst : dstOk N o.dst = true)
    (hb : 0 ≤ n ∧ n ≤ m ∧ m ≤ c)
    (hn : SXo cx K ds rg H R k (setE env o.dst (.s (.o (.slice (some ⟨b, o1, none⟩) n.toNat m.toNat)))) mem)
    (hH : ∀ x ∈ H, rg.fr P x.idx i = true → x.chk (mem) := by repeat (first | exact hh_nil | refine hh_free rfl ?_ | refine hh_chk ⟨_, _, _, (by first | exact .head | exact .tail .head | exact .tail (.tail .head) | exact .tail (.tail (.tail .head)) | exact .tail (.tail (.tail (.tail .head)))), (by rfl)⟩ ?_ | refine hh_chk trivial ?_)) : SXo cx K ds rg H ((i, o) :: R) k env mem := by
  refine sxo_any (v := .s (.o (.slice (some ⟨b, o1, none⟩) n.toNat m.toNat))) hg (by rw [ho]; rfl) hdst (fun a hs w => ?_) hH hn
  have hrun : (underlying T).run P w = .ok (.slice eT) w := run_underlying (tab_slice ht hd) w
  have hs2 := (Tab.ok eT te he).size w
  have c1 : 0 ≤ m := by omega
  have c2 : n ≤ max m 0 := by omega
  simp [execOp, ho, hs.eval hx, hs.eval hy, hs.eval hz, Instr.sliceAt, Instr.slice, Instr.sliceBounds, Instr.sliceBound, asIntOf, hrun, hs2, hb, c1, c2, Addr.add_plain]
/-- copy, within one row of bytes. -/
theorem sxo_copySelf {x y : Operand} {T3 : TypeId} {b o1 d s0 n1 n2 c1 c2 n c : Nat} {l : List UInt8} (ho : o.op = .call { callee := .builtin .copy, args := #[x, y], argTypes := #[T, T3] }) (hg : guardE rg.ops o env = some true)
    (hx : ev env x = some (.s (.o (.slice (some ⟨b, o1 + d, none⟩) n1 c1)))) (hy : ev env y = some (.s (.o (.slice (some ⟨b, o1 + s0, none⟩) n2 c2)))) (ht : Tab.ti P T = some ti) (hd : ti.d = .slice eT) (he : Tab.ti P eT = some te) (hsz : te.size = 1)
    (hb : Pick mem (.vec ⟨some ⟨b, o1, none⟩, n, c⟩ eT 1 encB l) r) (hl1 : d + n1 ≤ l.length) (hl2 : s0 + n2 ≤ l.length) (hdst : dstOk N o.dst = true) (hl : rg.lt P i = false)
    (h : SXo cx K ds rg H R k (setE env o.dst (.s (.o (.int .i64 (min n2 n1 : Nat))))) (.vec ⟨some ⟨b, o1, none⟩, n, c⟩ eT 1 encB (l.take d ++ (l.drop s0).take (min n2 n1) ++ l.drop (d + min n2 n1)) :: r))
    (hH : ∀ x ∈ H, rg.fr P x.idx i = true → x.chk (.vec ⟨some ⟨b, o1, none⟩, n, c⟩ eT 1 encB (l.take d ++ (l.drop s0).take (min n2 n1) ++ l.drop (d + min n2 n1)) :: r) := by repeat (first | exact hh_nil | refine hh_free rfl ?_ | refine hh_chk ⟨_, _, _, (by first | exact .head | exact .tail .head | exact .tail (.tail .head) | exact .tail (.tail (.tail .head)) | exact .tail (.tail (.tail (.tail .head)))), (by rfl)⟩ ?_ | refine hh_chk trivial ?_)) : SXo cx K ds rg H ((i, o) :: R) k env mem :=
  sxo_act hl hg (by rw [ho]; rfl) fun a w s => by
    have hm := MSat.pick hb s.mem
    have hcl : (l.take d ++ (l.drop s0).take (min n2 n1) ++ l.drop (d + min n2 n1)).length = l.length := by
      simp only [List.length_append, List.length_take, List.length_drop]; omega
    rcases hm.vec with ⟨e1, _⟩ | ⟨b', o', cs, e1, e2, e3, e4, e5, e6, e7⟩
    · cases e1
    cases e1
    simp only at e2 e3 e5
    have hcell : ∀ (j : Nat) (x : UInt8), l[j]? = some x → cs[o1 + j]? = some (.int .u8 x.toNat) := fun j x hx => by
      have := e7 j x hx 0 (.int .u8 x.toNat) (by simp [flat, Ch.vals])
      simpa using this
    have hrowl : ∀ q : List UInt8, rowOf encB q = q.map fun x => Value.int .u8 x.toNat := by
      intro q; induction q with
      | nil => rfl
      | cons x q ih => rw [rowOf_cons, ih]; simp [flat, Ch.vals]
    have hrlen : (rowOf encB ((l.drop s0).take (min n2 n1))).length = min n2 n1 := by
      rw [hrowl]; simp only [List.length_map, List.length_take, List.length_drop]; omega
    have hsrc : ∀ (j : Nat) (v : Value), (rowOf encB ((l.drop s0).take (min n2 n1)))[j]? = some v → w.cell? ((⟨b, o1 + s0, none⟩ : Addr).add j) = some v := fun j v hv => by
      rw [Addr.add_plain]
      rw [hrowl, List.getElem?_map, Option.map_eq_some_iff] at hv
      obtain ⟨x, hx, rfl⟩ := hv
      have hj := (List.getElem?_eq_some_iff.1 hx).1
      simp only [List.length_take, List.length_drop] at hj
      rw [List.getElem?_take_of_lt (by omega), List.getElem?_drop] at hx
      have := hcell _ x hx
      exact vw_cell e4 (by rw [Nat.add_assoc]; exact this)
    have hu : P.underlying T = some (.slice eT) := tab_slice ht hd
    obtain ⟨xi, hxi, _, hxs, _⟩ := (Tab.ok eT te he).info
    have hfit : o1 + d + (rowOf encB ((l.drop s0).take (min n2 n1))).length ≤ cs.size := by rw [hrlen]; omega
    have hone : ∀ v ∈ rowOf encB ((l.drop s0).take (min n2 n1)), v.oneCell' = true := oneRow fun x _ => rfl
    have hrun := run_copy_row (P := P) w T T3 o.type eT b (o1 + d) n1 c1 ⟨b, o1 + s0, none⟩ n2 c2 cs eT (rowOf encB ((l.drop s0).take (min n2 n1))) hu (by rw [hxi]; simp [hxs, hsz]) e4 (by rw [hrlen]) hsrc hfit hone
    have hex : (execOp a.eval o).run P w = .ok (.value (.int .i64 (min n2 n1 : Nat))) (w.setRow b (spliceA cs (o1 + d) (rowOf encB ((l.drop s0).take (min n2 n1))))) := by
      rw [hrlen] at hrun
      simp only [goInt] at hrun
      simp only [execOp, ho, resolve, Array.map, invoke, builtin, s.env.eval hx, s.env.eval hy]
      simp [s.env.eval hx, s.env.eval hy, builtin, invoke, hrun, spliceA, hrlen]
    unfold OW
    rw [hex]
    refine ⟨_, _, _, ⟨by rw [Act.put_def]; exact s.ds, by rw [Act.put_size]; exact s.size, s.env.put s.size hdst (.s (.o (.int .i64 (min n2 n1 : Nat)))), ?_, s.os, s.out⟩, hH, h⟩
    rw [vw_setRow e4]
    refine hm.turn (fun h1 hv1 => ?_) (fun h1 _ _ => ?_)
    · rcases hv1 with ⟨q, _⟩ | ⟨b', o', cs0, q, _, _, q2, _⟩
      · cases q
      · cases q; simp [q2]
    · refine .inr ⟨b, o1, _, rfl, by rw [hcl]; exact e2, e3, put_self _ _ _, by rw [spliceA_size hfit]; exact e5, fun _ _ => rfl, fun j x hx q v hv => ?_⟩
      have hq : q = 0 := by have := (List.getElem?_eq_some_iff.1 hv).1; simp [flat, Ch.vals] at this; omega
      subst hq
      simp [flat, Ch.vals] at hv
      subst hv
      simp only [Nat.mul_one, Nat.add_zero]
      have hjl := (List.getElem?_eq_some_iff.1 hx).1
      rw [hcl] at hjl
      have htd : (l.take d).length = d := by rw [List.length_take]; omega
      have htk : ((l.drop s0).take (min n2 n1)).length = min n2 n1 := by simp only [List.length_take, List.length_drop]; omega
      by_cases c1 : j < d
      · rw [List.append_assoc, List.getElem?_append_left (by omega), List.getElem?_take_of_lt c1] at hx
        rw [spliceA_out hfit (.inl (by omega))]
        exact hcell j x hx
      · rw [List.append_assoc, List.getElem?_append_right (by omega), htd] at hx
        by_cases c2 : j - d < min n2 n1
        · rw [List.getElem?_append_left (by omega)] at hx
          rw [show o1 + j = o1 + d + (j - d) by omega, spliceA_in hfit (by omega), hrowl, List.getElem?_map, hx]; rfl
        · rw [List.getElem?_append_right (by omega), htk, List.getElem?_drop] at hx
          rw [spliceA_out hfit (.inr (by omega))]
          refine hcell j x ?_
          rw [← hx]; congr 1; omega
end
section
variable {P : Program} [Tab P] {N : Nat} {cx : Cx P N} {K : Hp} {ds : List Deferred} {k : List Item} {env : Env} {mem r : List Ent} {rg : Rg} {H : List HE} {R : List (Nat × Oper)} {i : Nat} {o : Oper}
variable {T eT : TypeId} {ti te : TInf}
/-- An array of zeros. -/
theorem sxo_buildA0 {n : Nat} {z0 : Ch} {zs : List Ch} (ho : o.op = .build T #[]) (hg : guardE rg.ops o env = some true) (ht : Tab.ti P T = some ti) (hd : ti.d = .array n eT) (he : Tab.ti P eT = some te) (hz : ti.zero = z0 :: zs) (hdst : dstOk N o.dst = true)
    (h : SXo cx K ds rg H R k (setE env o.dst (.s (.g (z0 :: zs)))) mem) (hH : ∀ x ∈ H, rg.fr P x.idx i = true → x.chk (mem) := by repeat (first | exact hh_nil | refine hh_free rfl ?_ | refine hh_chk ⟨_, _, _, (by first | exact .head | exact .tail .head | exact .tail (.tail .head) | exact .tail (.tail (.tail .head)) | exact .tail (.tail (.tail (.tail .head)))), (by rfl)⟩ ?_ | refine hh_chk trivial ?_)) : SXo cx K ds rg H ((i, o) :: R) k env mem :=
  sxo_any (v := .s (.g (z0 :: zs))) hg (by rw [ho]; rfl) hdst (fun a he' w => by
    have hu : P.underlying T = some (.array n eT) := by have := (Tab.ok T ti ht).desc; rw [hd] at this; exact this
    have hrun : (underlying T).run P w = .ok (.array n eT) w := run_underlying hu w
    obtain ⟨z, hz1, hz2⟩ := zero_run (Tab.ok T ti ht) (by rw [hz]; simp)
    have hsz := (Tab.ok eT te he).size w
    have hz1' := hz1 w
    simp [execOp, ho, Instr.build, hz1', hrun, hsz, Instr.fill, hz2, hz, agv]) hH h
end
end Go.SX

namespace Go.SX
open Go.Proofs
attribute [local irreducible] SX SXo
set_option maxRecDepth 20000
theorem u8w (m : Int) : ∃ u : UInt8, IntKind.u8.wrap m = (u.toNat : Int) := by
  have e : IntKind.u8.wrap m = m % 256 := by simp [IntKind.wrap, IntKind.signed, IntKind.bits]
  refine ⟨UInt8.ofNat (m % 256).toNat, ?_⟩
  rw [e, UInt8.toNat_ofNat']
  omega
theorem number_ok (K : Hp) (n : Int) : TR Tryz.prog K 318 [.o (.int .i64 n)] []
    fun v r => ∃ s, ∃ l : List UInt8, l.length = 4 ∧ v = .s (.o (Sl.v s)) ∧ r = [.vec s 5 1 encB l] := by
  refine tr_intro Tryz.func318 rfl rfl rfl fun cx hro hk hret => ?_
  refine sx_seq ?_
  refine sx_region ?_
  refine sxo_pure rfl rfl rfl trivial ?_
  refine sxo_end ?_
  refine sx_seq ?_
  refine sx_region ?_
  refine sxo_pure rfl rfl rfl trivial ?_
  refine sxo_conv rfl rfl rfl rfl rfl rfl rfl rfl ?_
  refine sxo_pure rfl rfl rfl trivial ?_
  refine sxo_pure rfl rfl rfl (by omega) ?_
  refine sxo_conv rfl rfl rfl rfl rfl rfl rfl rfl ?_
  refine sxo_pure rfl rfl rfl trivial ?_
  refine sxo_pure rfl rfl rfl (by omega) ?_
  refine sxo_conv rfl rfl rfl rfl rfl rfl rfl rfl ?_
  refine sxo_pure rfl rfl rfl trivial ?_
  refine sxo_pure rfl rfl rfl (by omega) ?_
  refine sxo_conv rfl rfl rfl rfl rfl rfl rfl rfl ?_
  refine sxo_buildSlice rfl rfl rfl rfl rfl rfl rfl rfl rfl rfl rfl rfl rfl (fun _ => ?_)
  refine sxo_pure rfl rfl rfl trivial ?_
  refine sxo_end ?_
  obtain ⟨u1, e1⟩ := u8w n
  obtain ⟨u2, e2⟩ := u8w (n.fdiv (2 ^ min (Int.toNat 8) IntKind.i64.bits))
  obtain ⟨u3, e3⟩ := u8w (n.fdiv (2 ^ min (Int.toNat 16) IntKind.i64.bits))
  obtain ⟨u4, e4⟩ := u8w (n.fdiv (2 ^ min (Int.toNat 24) IntKind.i64.bits))
  rename_i b
  rw [e1, e2, e3, e4]
  refine sx_recast (.vec ⟨some ⟨b, 0, none⟩, 4, 4⟩ 5 1 encB [u1, u2, u3, u4]) .head (fun _ hb => blk_vec hb rfl rfl (fun _ _ => rfl)) ?_
  refine sx_retL hret hro hk (.tmp rfl .nil) ⟨_, _, rfl, rfl, rfl⟩ (by (apply Take.cons; focus exact .head); exact .nil)
theorem bitsMul_ok (K : Hp) (mem : List Ent) (x y : Nat) (hx : x < 18446744073709551616) (hy : y < 18446744073709551616) : TR Tryz.prog K 389 [.o (.int .u64 x), .o (.int .u64 y)] mem
    fun v m => v = .t [.o (.int .u64 ((x * y / 18446744073709551616 : Nat) : Int)), .o (.int .u64 ((x * y % 18446744073709551616 : Nat) : Int))] ∧ m = mem := by
  refine tr_of_still ⟨_, Tryz.func389, rfl, rfl⟩ fun w => ?_
  refine (Tryz.bits_Mul x y hx hy w).mono ?_
  rintro e w' ⟨rfl, rfl⟩
  exact ⟨rfl, rfl⟩
theorem Repeat_ok (K : Hp) (s : Sl) (l : List UInt8) (hl : l.length = 8) : TR Tryz.prog K 317 [.o s.v, .o (.int .i64 2)] [.vec s 5 1 encB l]
    fun v r => ∃ s', ∃ l' : List UInt8, l'.length = 16 ∧ v = .s (.o (Sl.v s')) ∧ r = [.vec s' 5 1 encB l'] := by
  obtain ⟨p, n, c⟩ := s
  refine tr_intro Tryz.func317 rfl rfl rfl fun cx hro hk hret => ?_
  refine sx_seq ?_
  refine sx_region ?_
  refine sxo_pure rfl rfl rfl trivial ?_
  refine sxo_end ?_
  refine sx_seq ?_
  refine sx_seq ?_
  refine sx_region ?_
  refine sxo_pure rfl rfl rfl trivial ?_
  refine sxo_pure rfl rfl rfl trivial ?_
  refine sxo_end ?_
  refine sx_condF rfl ?_
  refine sx_skip ?_
  refine sx_seq ?_
  refine sx_seq ?_
  refine sx_region ?_
  refine sxo_pure rfl rfl rfl trivial ?_
  refine sxo_pure rfl rfl rfl trivial ?_
  refine sxo_end ?_
  refine sx_condF rfl ?_
  refine sx_skip ?_
  refine sx_seq ?_
  refine sx_region ?_
  refine sxo_pure rfl rfl rfl trivial ?_
  refine sxo_len rfl rfl rfl rfl rfl (by exact Reads.own (by exact .head)) rfl rfl ?_
  refine sxo_conv rfl rfl rfl rfl rfl rfl rfl rfl ?_
  refine sxo_pure rfl rfl rfl trivial ?_
  refine sxo_conv rfl rfl rfl rfl rfl rfl rfl rfl ?_
  simp only [hl]
  rw [show IntKind.u64.wrap ((8 : Nat) : Int) = ((8 : Nat) : Int) from rfl, show IntKind.u64.wrap 2 = ((2 : Nat) : Int) from rfl]
  refine sxo_call0 rfl rfl rfl rfl (by exact .nil) (fun Kc hK hB => bitsMul_ok Kc [] 8 2 (by decide) (by decide)) rfl rfl ?_ (hH := by rintro v m ⟨rfl, rfl⟩; (exact hh_nil))
  rintro v m ⟨rfl, rfl⟩
  simp only [List.cons_append, List.nil_append, List.append_nil, resV]
  refine sxo_pure rfl rfl rfl trivial ?_
  refine sxo_pure rfl rfl rfl trivial ?_
  refine sxo_pure rfl rfl rfl trivial ?_
  refine sxo_pure rfl rfl rfl trivial ?_
  refine sxo_pure rfl rfl rfl trivial ?_
  refine sxo_end ?_
  refine sx_seq ?_
  refine sx_seq ?_
  refine sx_region ?_
  refine sxo_pure rfl rfl rfl trivial ?_
  refine sxo_pure rfl rfl rfl trivial ?_
  refine sxo_pure rfl rfl rfl trivial ?_
  refine sxo_pure rfl rfl rfl trivial ?_
  refine sxo_pure rfl rfl rfl trivial ?_
  refine sxo_pure rfl rfl rfl trivial ?_
  refine sxo_end ?_
  refine sx_condF rfl ?_
  refine sx_skip ?_
  refine sx_seq ?_
  refine sx_region ?_
  refine sxo_pure rfl rfl rfl trivial ?_
  refine sxo_conv rfl rfl rfl rfl rfl rfl rfl rfl ?_
  refine sxo_pure rfl rfl rfl trivial ?_
  refine sxo_end ?_
  refine sx_seq ?_
  refine sx_seq ?_
  refine sx_region ?_
  refine sxo_pure rfl rfl rfl trivial ?_
  refine sxo_len rfl rfl rfl rfl rfl (by exact Reads.own (by exact .head)) rfl rfl ?_
  refine sxo_pure rfl rfl rfl trivial ?_
  refine sxo_end ?_
  simp only [hl]
  rw [show IntKind.i64.wrap ((8 * 2 % 18446744073709551616 : Nat) : Int) = 16 from rfl]
  refine sx_condF rfl ?_
  refine sx_skip ?_
  refine sx_seq ?_
  refine sx_region ?_
  refine sxo_pure rfl rfl rfl trivial ?_
  refine sxo_pure rfl rfl rfl trivial ?_
  refine sxo_end ?_
  refine sx_seq ?_
  refine sx_seq ?_
  refine sx_region ?_
  refine sxo_pure rfl rfl rfl trivial ?_
  refine sxo_pure rfl rfl rfl trivial ?_
  refine sxo_end ?_
  refine sx_condF rfl ?_
  refine sx_skip ?_
  refine sx_seq ?_
  refine sx_region ?_
  refine sxo_pure rfl rfl rfl trivial ?_
  refine sxo_makeNoZero (ps := #[3]) (T := 38) rfl rfl rfl rfl Tryz.func390 rfl rfl (by kernel_rfl) (by kernel_rfl) rfl rfl (by omega) rfl rfl (fun b1 c1 l1 hl1 hc1 => ?_)
  refine sxo_pure rfl rfl rfl trivial ?_
  refine sxo_pure rfl rfl rfl trivial ?_
  refine sxo_sliceM rfl rfl rfl rfl rfl rfl rfl rfl rfl ⟨by decide, by decide, by omega⟩ ?_
  refine sxo_recast (.vec ⟨some ⟨b1, 0, none⟩, 16, 16⟩ 5 1 encB l1) .head (fun _ hb => vec_cap hb (by decide) hc1) ?_
  refine sxo_pure rfl rfl rfl trivial ?_
  refine sxo_end ?_
  refine sx_seq ?_
  refine sx_region ?_
  refine sxo_pure rfl rfl rfl trivial ?_
  refine sxo_pure rfl rfl rfl trivial ?_
  refine sxo_copy (l := l1) (lx := l) rfl rfl rfl rfl rfl rfl rfl rfl rfl .head (Reads.own .head) (fun _ => rfl) rfl rfl ?_
  have hmin : min l.length l1.length = 8 := by rw [hl, hl1]; rfl
  simp only [hmin]
  have hl2 : (l.take 8 ++ l1.drop 8).length = 16 := by simp [hl, hl1]
  generalize l.take 8 ++ l1.drop 8 = l2 at hl2
  refine sxo_pure rfl rfl rfl trivial ?_
  refine sxo_end ?_
  refine sx_seq ?_
  refine sx_block ?_
  refine sx_less (by refine .cons rfl ?_; refine .cons rfl ?_; refine .cons rfl ?_; refine .cons rfl ?_; exact .nil _) (by (apply Take.cons; focus exact .head); exact .nil) (sx_loopI (γ := Nat × List UInt8) (fun x => (x.1 = 8 ∨ x.1 = 16) ∧ x.2.length = 16) (fun x => 16 - x.1) (fun x => [(7, .s (.o (.int .i64 16))), (8, .s (.o (.int .i64 16))), (9, .s (.o (.slice (some ⟨b1, 0, none⟩) 16 16))), (10, .s (.o (.int .i64 x.1)))]) (fun x => [.vec ⟨some ⟨b1, 0, none⟩, 16, 16⟩ 5 1 encB x.2]) ((8, l2)) (⟨.inl rfl, hl2⟩) ?_)
  rintro ⟨bp, l3⟩ ⟨hbp, hl3⟩ ih
  simp only at hbp hl3
  rcases hbp with rfl | rfl
  · refine sx_seq ?_
    refine sx_seq ?_
    refine sx_region ?_
    refine sxo_pure rfl rfl rfl trivial ?_
    refine sxo_pure rfl rfl rfl trivial ?_
    refine sxo_pure rfl rfl rfl trivial ?_
    refine sxo_end ?_
    refine sx_condT rfl ?_
    refine sx_skip ?_
    refine sx_block ?_
    refine sx_seq ?_
    refine sx_region ?_
    refine sxo_pure rfl rfl rfl trivial ?_
    refine sxo_pure rfl rfl rfl trivial ?_
    refine sxo_min rfl rfl rfl rfl rfl ?_
    refine sxo_pure rfl rfl rfl trivial ?_
    refine sxo_end ?_
    refine sx_drawN 20 (by kernel_rfl) [0, 1, 2, 3, 4, 5, 6, 7, 8, 9] [] (by kernel_rfl) ?_
    refine sxo_pure rfl rfl rfl trivial ?_
    refine sxo_pure rfl rfl rfl trivial ?_
    refine sxo_pure rfl rfl rfl trivial ?_
    refine sxo_sliceX rfl rfl rfl rfl rfl rfl rfl rfl rfl rfl (by simp [loOf, hiOf]) ?_
    refine sxo_pure rfl rfl rfl trivial ?_
    refine sxo_pure rfl rfl rfl trivial ?_
    refine sxo_slice0 rfl rfl rfl rfl rfl rfl rfl rfl rfl rfl (Reads.own .head) (by simp only [hiOf, hl3]; decide) ?_
    refine sxo_copySelf (o1 := 0) (d := 8) (s0 := 0) (n1 := 8) (n2 := 8) (c1 := 8) (c2 := 16) rfl rfl rfl rfl rfl rfl rfl rfl .head (by simp only [hl3]; decide) (by simp only [hl3]; decide) rfl rfl ?_
    refine sxo_pure rfl rfl rfl (by omega) ?_
    refine sxo_pure rfl rfl rfl trivial ?_
    refine sxo_end ?_
    refine sx_inBlock ?_
    refine sx_less (by refine .cons rfl ?_; refine .cons rfl ?_; refine .cons rfl ?_; refine .cons rfl ?_; exact .nil _) (by (apply Take.cons; focus exact .head); exact .nil) (ih ((16, l3.take 8 ++ (l3.drop 0).take (min 8 8) ++ l3.drop (8 + min 8 8))) (⟨.inr rfl, by simp [hl3]⟩) (by simp only; omega))
  · refine sx_seq ?_
    refine sx_seq ?_
    refine sx_region ?_
    refine sxo_pure rfl rfl rfl trivial ?_
    refine sxo_pure rfl rfl rfl trivial ?_
    refine sxo_pure rfl rfl rfl trivial ?_
    refine sxo_end ?_
    refine sx_condF rfl ?_
    refine sx_exit rfl ?_
    refine sx_seq ?_
    refine sx_region ?_
    refine sxo_pure rfl rfl rfl trivial ?_
    refine sxo_pure rfl rfl rfl trivial ?_
    refine sxo_end ?_
    refine sx_retL hret hro hk (.tmp rfl .nil) ⟨⟨_, _, _⟩, l3, hl3, rfl, rfl⟩ (by (apply Take.cons; focus exact .head); exact .nil)
theorem head_ok (K : Hp) (a b : Int) : TR Tryz.prog K 223 [.o (.int .i64 a), .o (.int .i64 b)] []
    fun v r => ∃ s, ∃ l : List UInt8, l.length = 16 ∧ v = .s (.o (Sl.v s)) ∧ r = [.vec s 5 1 encB l] := by
  refine tr_intro Tryz.func223 rfl rfl rfl fun cx hro hk hret => ?_
  refine sx_seq ?_
  refine sx_region ?_
  refine sxo_pure rfl rfl rfl trivial ?_
  refine sxo_end ?_
  refine sx_seq ?_
  refine sx_region ?_
  refine sxo_pure rfl rfl rfl trivial ?_
  refine sxo_call0 rfl rfl rfl rfl (by exact .nil) (fun Kc hK hB => number_ok Kc a) rfl rfl ?_ (hH := by rintro v m ⟨⟨p1, n1, c1⟩, l1, h1, rfl, rfl⟩; (exact hh_nil))
  rintro v m ⟨⟨p1, n1, c1⟩, l1, h1, rfl, rfl⟩
  simp only [List.cons_append, List.nil_append, List.append_nil, resV]
  refine sxo_pure rfl rfl rfl trivial ?_
  refine sxo_call0 rfl rfl rfl rfl (by exact .nil) (fun Kc hK hB => number_ok Kc b) rfl rfl ?_ (hH := by rintro v m ⟨⟨p2, n2, c2⟩, l2, h2, rfl, rfl⟩; (exact hh_nil))
  rintro v m ⟨⟨p2, n2, c2⟩, l2, h2, rfl, rfl⟩
  simp only [List.cons_append, List.nil_append, List.append_nil, resV]
  skip
  refine sxo_append (lx := l2) rfl rfl rfl rfl rfl rfl rfl rfl rfl rfl (by exact .tail .head) (Reads.own (by exact .head)) (fun _ => rfl) rfl rfl rfl (by simp [h1, h2]) (fun p3 n3 c3 => ?_)
  skip
  refine sxo_call0 rfl rfl rfl rfl (by (apply Take.cons; focus exact .head); exact .nil) (fun Kc hK hB => Repeat_ok Kc ⟨p3, n3, c3⟩ (l1 ++ l2) (by simp [h1, h2])) rfl rfl ?_ (hH := by rintro v m ⟨s4, l4, h4, rfl, rfl⟩; (exact hh_nil))
  rintro v m ⟨s4, l4, h4, rfl, rfl⟩
  simp only [List.cons_append, List.nil_append, List.append_nil, resV]
  refine sxo_pure rfl rfl rfl trivial ?_
  refine sxo_end ?_
  refine sx_retL hret hro hk (.tmp rfl .nil) ⟨s4, l4, h4, rfl, rfl⟩ (by (apply Take.cons; focus exact .head); exact .nil)
theorem GrowNil_ok (K : Hp) (n : Int) (hn : 0 < n ∧ n ≤ 1000000) : TR Tryz.prog K 319 [.o (.slice none 0 0), .o (.int .i64 n)] []
    fun v r => ∃ p c, v = .s (.o (.slice p 0 c)) ∧ r = [.vec ⟨p, 0, c⟩ 5 1 encB []] := by
  refine tr_intro Tryz.func319 rfl rfl rfl fun cx hro hk hret => ?_
  refine sx_seq ?_
  refine sx_region ?_
  refine sxo_pure rfl rfl rfl trivial ?_
  refine sxo_end ?_
  refine sx_seq ?_
  refine sx_seq ?_
  refine sx_region ?_
  refine sxo_pure rfl rfl rfl trivial ?_
  refine sxo_pure rfl rfl rfl trivial ?_
  refine sxo_end ?_
  refine sx_cond rfl (fun h => ?_) (fun h => ?_)
  · simp at h; omega
  refine sx_skip ?_
  refine sx_seq ?_
  refine sx_seq ?_
  refine sx_region ?_
  refine sxo_pure rfl rfl rfl trivial ?_
  refine sxo_pure rfl rfl rfl trivial ?_
  refine sxo_cap rfl rfl rfl rfl rfl rfl rfl ?_
  refine sxo_pure rfl rfl rfl trivial ?_
  refine sxo_lenV rfl rfl rfl rfl rfl rfl rfl ?_
  refine sxo_pure rfl rfl rfl (by omega) ?_
  refine sxo_pure rfl rfl rfl (by omega) ?_
  refine sxo_pure rfl rfl rfl trivial ?_
  refine sxo_end ?_
  refine sx_seq ?_
  refine sx_region ?_
  refine sxo_pure rfl rfl rfl trivial ?_
  refine sxo_pure rfl rfl rfl trivial ?_
  refine sxo_end ?_
  have hz : n - (((0 : Nat) : Int) - ((0 : Nat) : Int)) = n := by omega
  rw [hz]
  refine sx_cond rfl (fun h2 => ?_) (fun h2 => ?_)
  · refine sx_region ?_
    refine sxo_pure rfl rfl rfl trivial ?_
    refine sxo_pure rfl rfl rfl trivial ?_
    refine sxo_cap rfl rfl rfl rfl rfl rfl rfl ?_
    refine sxo_slice0 (T0 := 0) (wd := 1) (enc := encB) (l := []) rfl rfl rfl rfl rfl rfl rfl rfl rfl rfl Reads.nil_ (by simp [hiOf]) ?_
    refine sxo_pure rfl rfl rfl trivial ?_
    refine sxo_appMake (n := n) rfl rfl rfl rfl rfl rfl rfl rfl rfl rfl rfl rfl hn rfl rfl (fun b c => ?_)
    refine sxo_pure rfl rfl rfl trivial ?_
    refine sxo_lenV rfl rfl rfl rfl rfl rfl rfl ?_
    refine sxo_slice0 rfl rfl rfl rfl rfl rfl rfl rfl rfl rfl (Reads.own .head) (by simp [hiOf] <;> omega) ?_
    refine sxo_recast (.vec ⟨some ⟨b, 0, none⟩, 0, c⟩ 5 1 encB []) .head (fun _ hb => vec_cut0 hb) ?_
    refine sxo_pure rfl rfl rfl trivial ?_
    refine sxo_end ?_
    refine sx_seq ?_
    refine sx_region ?_
    refine sxo_pure rfl rfl rfl trivial ?_
    refine sxo_pure rfl rfl rfl trivial ?_
    refine sxo_end ?_
    refine sx_retL hret hro hk (.tmp rfl .nil) ⟨_, _, rfl, rfl⟩ (by (apply Take.cons; focus exact .head); exact .nil)
  · simp at h2; omega
end Go.SX

namespace Go.SX
open Go.Proofs
attribute [local irreducible] SX SXo
set_option maxRecDepth 20000
@[reducible] def encSl (s : Sl) : List Ch := [.c s.v]
theorem Concat_ok (K : Hp) (bs : Nat) (ls : List (Sl × List UInt8)) (M : List Ent) (hl : ls.length ≤ 10) (hn : ∀ x ∈ ls, x.2.length ≤ 1000) (hpos : 0 < (ls.flatMap (·.2)).length) (hR : ∀ Kc, Sub K Kc → ∀ x ∈ ls, Reads Kc M x.1 5 1 encB x.2) :
    TR Tryz.prog K 224 [.o (.slice (some ⟨bs, 0, none⟩) ls.length ls.length)] (.blk bs 38 (ls.flatMap fun x => encSl x.1) :: M)
    fun v r => ∃ s : Sl, v = .s (.o (Sl.v s)) ∧ r = .vec s 5 1 encB (ls.flatMap (·.2)) :: .blk bs 38 (ls.flatMap fun x => encSl x.1) :: M := by
  have hv : Reads K (.blk bs 38 (ls.flatMap fun x => encSl x.1) :: M) ⟨some ⟨bs, 0, none⟩, ls.length, ls.length⟩ 38 1 (fun x : Sl × List UInt8 => encSl x.1) ls := Reads.blk .head rfl rfl (fun _ _ => rfl)
  have hb : ∀ q : List (Sl × List UInt8), (∀ x ∈ q, x ∈ ls) → (q.flatMap (·.2)).length ≤ q.length * 1000 := by
    intro q
    induction q with
    | nil => intro _; simp
    | cons x q ih =>
      intro hq
      have h1 := ih fun y hy => hq y (List.mem_cons_of_mem _ hy)
      have h2 := hn x (hq x List.mem_cons_self)
      simp only [List.flatMap_cons, List.length_append, List.length_cons]
      omega
  refine tr_intro Tryz.func224 rfl rfl rfl fun cx hro hk hret => ?_
  refine sx_seq ?_
  refine sx_region ?_
  refine sxo_pure rfl rfl rfl trivial ?_
  refine sxo_end ?_
  refine sx_seq ?_
  refine sx_region ?_
  refine sxo_pure rfl rfl rfl trivial ?_
  refine sxo_end ?_
  refine sx_seq ?_
  refine sx_seq ?_
  refine sx_region ?_
  refine sxo_pure rfl rfl rfl trivial ?_
  refine sxo_len rfl rfl rfl rfl rfl (by assumption) rfl rfl ?_
  refine sxo_pure rfl rfl rfl trivial ?_
  refine sxo_end ?_
  refine sx_block ?_
  refine sx_less (by refine .cons rfl ?_; refine .cons rfl ?_; refine .cons rfl ?_; refine .cons rfl ?_; refine .cons rfl ?_; exact .nil _) .all (sx_loopI (γ := Nat) (fun j => j ≤ ls.length) (fun j => ls.length - j) (fun j => [(0, .s (.o (.slice (some ⟨bs, 0, none⟩) ls.length ls.length))), (9, .s (.o (.slice (some ⟨bs, 0, none⟩) ls.length ls.length))), (10, .s (.o (.int .i64 ls.length))), (11, .s (.o (.int .i64 j))), (3, .s (.o (.int .i64 ((ls.take j).flatMap (·.2)).length)))])
    (fun _ => .blk bs 38 (ls.flatMap fun x => encSl x.1) :: M) 0 (by omega) ?_)
  rintro j hj ih
  refine sx_seq ?_
  refine sx_region ?_
  refine sxo_pure rfl rfl rfl trivial ?_
  refine sxo_end ?_
  refine sx_seq ?_
  refine sx_cond rfl (fun h => ?_) (fun h => ?_)
  · simp at h
    refine sx_skip ?_
    refine sx_seq ?_
    refine sx_block ?_
    refine sx_seq ?_
    refine sx_region ?_
    refine sxo_indexAddr rfl rfl rfl rfl rfl rfl rfl hv (by omega) rfl (fun _ _ => ?_)
    refine sxo_loadEl0 rfl rfl rfl .head hv.skip rfl (by omega) (fun _ => rfl) rfl rfl (fun x hx => ?_)
    simp at hx
    have hxm := List.mem_of_getElem? hx
    obtain ⟨⟨px, nx, cx'⟩, lx⟩ := x
    have hrx := (hR K (Sub.refl _) _ hxm).skip (e := .blk bs 38 (ls.flatMap fun x => encSl x.1))
    have hlx := hn _ hxm
    simp only at hrx hlx
    dsimp only
    have htl := hb (ls.take j) (fun x hx => List.mem_of_mem_take hx)
    have htl2 : (ls.take j).length ≤ 10 := by rw [List.length_take]; omega
    have hts : (ls.take (j + 1)).flatMap (·.2) = (ls.take j).flatMap (·.2) ++ lx := by rw [List.take_add_one, hx]; simp
    refine sxo_pure rfl rfl rfl trivial ?_
    refine sxo_end ?_
    refine sx_seq ?_
    refine sx_region ?_
    refine sxo_pure rfl rfl rfl trivial ?_
    refine sxo_pure rfl rfl rfl trivial ?_
    refine sxo_len rfl rfl rfl rfl rfl (by exact Reads.skip (by assumption)) rfl rfl ?_
    refine sxo_pure rfl rfl rfl (by omega) ?_
    refine sxo_pure rfl rfl rfl trivial ?_
    refine sxo_end ?_
    refine sx_seq ?_
    refine sx_region ?_
    refine sxo_pure rfl rfl rfl trivial ?_
    refine sxo_pure rfl rfl rfl trivial ?_
    refine sxo_end ?_
    refine sx_condF rfl ?_
    refine sx_skip ?_
    refine sx_inBlock ?_
    refine sx_region ?_
    refine sxo_pure rfl rfl rfl (by omega) ?_
    refine sxo_pure rfl rfl rfl trivial ?_
    refine sxo_end ?_
    have e := ih (j + 1) (by omega) (by omega)
    rw [hts] at e
    simp only [List.length_append, Int.natCast_add] at e
    exact sx_less (by refine .cons rfl ?_; refine .cons rfl ?_; refine .cons rfl ?_; refine .cons rfl ?_; refine .cons rfl ?_; exact .nil _) (.skip .all) e
  · simp at h
    have hj' : j = ls.length := by omega
    subst hj'
    simp only [List.take_length]
    have htl := hb ls (fun x hx => hx)
    refine sx_exit rfl ?_
    refine sx_seq ?_
    refine sx_region ?_
    refine sxo_pure rfl rfl rfl trivial ?_
    refine sxo_call0 rfl rfl rfl rfl .nil (fun Kc hK hB => GrowNil_ok Kc _ ⟨by omega, by omega⟩) rfl rfl ?_
    rintro v m ⟨p0, c0, rfl, rfl⟩
    simp only [List.cons_append, List.nil_append]
    refine sxo_pure rfl rfl rfl trivial ?_
    refine sxo_end ?_
    refine sx_seq ?_
    refine sx_seq ?_
    refine sx_region ?_
    refine sxo_pure rfl rfl rfl trivial ?_
    refine sxo_len rfl rfl rfl rfl rfl (by exact Reads.skip (by assumption)) rfl rfl ?_
    refine sxo_pure rfl rfl rfl trivial ?_
    refine sxo_end ?_
    refine sx_block ?_
    refine sx_less (by refine .cons rfl ?_; refine .cons rfl ?_; refine .cons rfl ?_; refine .cons rfl ?_; exact .nil _) .all (sx_loopI (γ := Nat × Sl) (fun x => x.1 ≤ ls.length) (fun x => ls.length - x.1) (fun x => [(25, .s (.o (.slice (some ⟨bs, 0, none⟩) ls.length ls.length))), (26, .s (.o (.int .i64 ls.length))), (27, .s (.o (.int .i64 x.1))), (6, .s (.o (.slice x.2.p x.2.n x.2.c)))])
      (fun x => .vec ⟨x.2.p, x.2.n, x.2.c⟩ 5 1 encB ((ls.take x.1).flatMap (·.2)) :: .blk bs 38 (ls.flatMap fun x => encSl x.1) :: M) (0, ⟨p0, 0, c0⟩) (by simp) ?_)
    clear ih
    rintro ⟨j, p1, n1, c1⟩ hj1 ih
    simp only at hj1
    refine sx_seq ?_
    refine sx_region ?_
    refine sxo_pure rfl rfl rfl trivial ?_
    refine sxo_end ?_
    refine sx_seq ?_
    refine sx_cond rfl (fun h => ?_) (fun h => ?_)
    · simp at h
      refine sx_skip ?_
      refine sx_seq ?_
      refine sx_block ?_
      refine sx_seq ?_
      refine sx_region ?_
      refine sxo_indexAddr rfl rfl rfl rfl rfl rfl rfl hv.skip (by omega) rfl (fun _ _ => ?_)
      refine sxo_loadEl0 rfl rfl rfl .head hv.skip.skip rfl (by omega) (fun _ => rfl) rfl rfl (fun x hx => ?_)
      simp at hx
      have hxm := List.mem_of_getElem? hx
      obtain ⟨⟨px, nx, cx'⟩, lx⟩ := x
      have hrx := (hR K (Sub.refl _) _ hxm).skip (e := .blk bs 38 (ls.flatMap fun x => encSl x.1))
      have hlx := hn _ hxm
      simp only at hrx hlx
      dsimp only
      have htl2 := hb (ls.take j) (fun x hx => List.mem_of_mem_take hx)
      have htl3 : (ls.take j).length ≤ 10 := by rw [List.length_take]; omega
      have hts : (ls.take (j + 1)).flatMap (·.2) = (ls.take j).flatMap (·.2) ++ lx := by rw [List.take_add_one, hx]; simp
      refine sxo_pure rfl rfl rfl trivial ?_
      refine sxo_end ?_
      refine sx_region ?_
      refine sxo_pure rfl rfl rfl trivial ?_
      refine sxo_pure rfl rfl rfl trivial ?_
      refine sxo_append (lx := lx) rfl rfl rfl rfl rfl rfl rfl rfl rfl rfl (by exact .tail .head) hrx.skip (fun _ => rfl) rfl rfl rfl (by simp only; omega) (fun p2 n2 c2 => ?_)
      refine sxo_pure rfl rfl rfl trivial ?_
      refine sxo_end ?_
      refine sx_inBlock ?_
      refine sx_region ?_
      refine sxo_pure rfl rfl rfl (by omega) ?_
      refine sxo_pure rfl rfl rfl trivial ?_
      refine sxo_end ?_
      have e := ih (j + 1, ⟨p2, n2, c2⟩) (by simp only; omega) (by simp only; omega)
      simp only [hts] at e
      exact sx_less (by refine .cons rfl ?_; refine .cons rfl ?_; refine .cons rfl ?_; refine .cons rfl ?_; exact .nil _) (.cons .head (.skip .all)) e
    · simp at h
      have hj' : j = ls.length := by omega
      subst hj'
      simp only [List.take_length]
      refine sx_exit rfl ?_
      refine sx_seq ?_
      refine sx_region ?_
      refine sxo_pure rfl rfl rfl trivial ?_
      refine sxo_pure rfl rfl rfl trivial ?_
      refine sxo_end ?_
      refine sx_ret hret hro hk (.tmp rfl .nil) ⟨⟨p1, n1, c1⟩, rfl, rfl⟩
end Go.SX

namespace Go.SX
open Go.Proofs
attribute [local irreducible] SX SXo
set_option maxRecDepth 20000
@[reducible] def encV (v : Value) : List Ch := [.c v]
theorem allJ_ok (K : Hp) (p : Option Addr) (n c : Nat) (l : List Value) (m0 : List Ent) (S : Nat → List Ent → Prop) (h0 : S 0 m0) (hl : l.length ≤ 100)
    (hS : ∀ Kc, Sub K Kc → ∀ (i : Nat) (Y : Value) (m : List Ent), l[i]? = some Y → S i m → TRV Tryz.prog Kc Y [] m fun v m' => v = .s (.o (.int .i64 0)) ∧ S (i + 1) m') :
    TR Tryz.prog K 226 [.o (.slice p n c)] (.vec ⟨p, n, c⟩ 76 1 encV l :: m0) fun v r => v = .s (.o (.int .i64 0)) ∧ ∃ m', S l.length m' ∧ r = .vec ⟨p, n, c⟩ 76 1 encV l :: m' := by
  refine tr_intro Tryz.func226 rfl rfl rfl fun cx hro hk hret => ?_
  refine sx_seq ?_
  refine sx_region ?_
  refine sxo_pure rfl rfl rfl trivial ?_
  refine sxo_end ?_
  refine sx_seq ?_
  refine sx_seq ?_
  refine sx_region ?_
  refine sxo_pure rfl rfl rfl trivial ?_
  refine sxo_len rfl rfl rfl rfl rfl (by exact Reads.own (by exact .head)) rfl rfl ?_
  refine sxo_pure rfl rfl rfl trivial ?_
  refine sxo_end ?_
  refine sx_block ?_
  refine sx_less (by refine .cons rfl ?_; refine .cons rfl ?_; refine .cons rfl ?_; exact .nil _) .all (sx_loopI (γ := Nat × List Ent) (fun x => x.1 ≤ l.length ∧ S x.1 x.2) (fun x => l.length - x.1) (fun x => [(6, .s (.o (.slice p n c))), (7, .s (.o (.int .i64 l.length))), (8, .s (.o (.int .i64 x.1)))])
    (fun x => .vec ⟨p, n, c⟩ 76 1 encV l :: x.2) (0, m0) ⟨by simp, h0⟩ ?_)
  rintro ⟨j, m⟩ ⟨hj, hm⟩ ih
  simp only at hj hm
  refine sx_seq ?_
  refine sx_region ?_
  refine sxo_pure rfl rfl rfl trivial ?_
  refine sxo_end ?_
  refine sx_seq ?_
  refine sx_cond rfl (fun h => ?_) (fun h => ?_)
  · simp at h
    refine sx_skip ?_
    refine sx_seq ?_
    refine sx_block ?_
    refine sx_seq ?_
    refine sx_region ?_
    refine sxo_indexAddr rfl rfl rfl rfl rfl rfl rfl (Reads.own .head) (by omega) rfl (fun _ _ => ?_)
    refine sxo_loadEl0 rfl rfl rfl .head (Reads.own (.tail .head)) rfl (by omega) (fun _ => rfl) rfl rfl (fun Y hY => ?_)
    simp at hY
    refine sxo_pure rfl rfl rfl trivial ?_
    refine sxo_end ?_
    refine sx_seq ?_
    refine sx_region ?_
    refine sxo_pure rfl rfl rfl trivial ?_
    refine sxo_callVR rfl rfl rfl rfl (.skip (.skip .all)) rfl rfl (fun Kc hK _ => hS Kc hK j Y m hY hm) ?_
    rintro v m' ⟨rfl, hm'⟩
    simp only [List.cons_append, List.nil_append]
    refine sxo_pure rfl rfl rfl trivial ?_
    refine sxo_end ?_
    refine sx_seq ?_
    refine sx_region ?_
    refine sxo_pure rfl rfl rfl trivial ?_
    refine sxo_pure rfl rfl rfl trivial ?_
    refine sxo_end ?_
    refine sx_condF rfl ?_
    refine sx_skip ?_
    refine sx_inBlock ?_
    refine sx_region ?_
    refine sxo_pure rfl rfl rfl (by omega) ?_
    refine sxo_pure rfl rfl rfl trivial ?_
    refine sxo_end ?_
    refine sx_less (by refine .cons rfl ?_; refine .cons rfl ?_; refine .cons rfl ?_; exact .nil _) (.cons (.tail .head) (.skip .all)) (ih (j + 1, m') ⟨by simp only; omega, hm'⟩ (by simp only; omega))
  · simp at h
    have hj' : j = l.length := by omega
    subst hj'
    refine sx_exit rfl ?_
    refine sx_seq ?_
    refine sx_region ?_
    refine sxo_pure rfl rfl rfl trivial ?_
    refine sxo_end ?_
    refine sx_ret hret hro hk (.tmp rfl .nil) ⟨rfl, m, hm, rfl⟩
theorem allB_ok (K : Hp) (p : Option Addr) (n c : Nat) (l : List Value) (m0 : List Ent) (S : Nat → List Ent → Prop) (h0 : S 0 m0) (hl : l.length ≤ 100)
    (hS : ∀ Kc, Sub K Kc → ∀ (i : Nat) (Y : Value) (m : List Ent), l[i]? = some Y → S i m → TRV Tryz.prog Kc Y [] m fun v m' => v = .s (.o (.int .i64 0)) ∧ S (i + 1) m') :
    TR Tryz.prog K 51 [.o (.slice p n c)] (.vec ⟨p, n, c⟩ 76 1 encV l :: m0) fun v r => v = .s (.o (.int .i64 0)) ∧ ∃ m', S l.length m' ∧ r = .vec ⟨p, n, c⟩ 76 1 encV l :: m' := by
  refine tr_intro Tryz.func51 rfl rfl rfl fun cx hro hk hret => ?_
  refine sx_seq ?_
  refine sx_region ?_
  refine sxo_pure rfl rfl rfl trivial ?_
  refine sxo_end ?_
  refine sx_seq ?_
  refine sx_seq ?_
  refine sx_region ?_
  refine sxo_pure rfl rfl rfl trivial ?_
  refine sxo_len rfl rfl rfl rfl rfl (by exact Reads.own (by exact .head)) rfl rfl ?_
  refine sxo_pure rfl rfl rfl trivial ?_
  refine sxo_end ?_
  refine sx_block ?_
  refine sx_less (by refine .cons rfl ?_; refine .cons rfl ?_; refine .cons rfl ?_; exact .nil _) .all (sx_loopI (γ := Nat × List Ent) (fun x => x.1 ≤ l.length ∧ S x.1 x.2) (fun x => l.length - x.1) (fun x => [(6, .s (.o (.slice p n c))), (7, .s (.o (.int .i64 l.length))), (8, .s (.o (.int .i64 x.1)))])
    (fun x => .vec ⟨p, n, c⟩ 76 1 encV l :: x.2) (0, m0) ⟨by simp, h0⟩ ?_)
  rintro ⟨j, m⟩ ⟨hj, hm⟩ ih
  simp only at hj hm
  refine sx_seq ?_
  refine sx_region ?_
  refine sxo_pure rfl rfl rfl trivial ?_
  refine sxo_end ?_
  refine sx_seq ?_
  refine sx_cond rfl (fun h => ?_) (fun h => ?_)
  · simp at h
    refine sx_skip ?_
    refine sx_seq ?_
    refine sx_block ?_
    refine sx_seq ?_
    refine sx_region ?_
    refine sxo_indexAddr rfl rfl rfl rfl rfl rfl rfl (Reads.own .head) (by omega) rfl (fun _ _ => ?_)
    refine sxo_loadEl0 rfl rfl rfl .head (Reads.own (.tail .head)) rfl (by omega) (fun _ => rfl) rfl rfl (fun Y hY => ?_)
    simp at hY
    refine sxo_pure rfl rfl rfl trivial ?_
    refine sxo_end ?_
    refine sx_seq ?_
    refine sx_region ?_
    refine sxo_pure rfl rfl rfl trivial ?_
    refine sxo_callVR rfl rfl rfl rfl (.skip (.skip .all)) rfl rfl (fun Kc hK _ => hS Kc hK j Y m hY hm) ?_
    rintro v m' ⟨rfl, hm'⟩
    simp only [List.cons_append, List.nil_append]
    refine sxo_pure rfl rfl rfl trivial ?_
    refine sxo_end ?_
    refine sx_seq ?_
    refine sx_region ?_
    refine sxo_pure rfl rfl rfl trivial ?_
    refine sxo_pure rfl rfl rfl trivial ?_
    refine sxo_end ?_
    refine sx_condF rfl ?_
    refine sx_skip ?_
    refine sx_inBlock ?_
    refine sx_region ?_
    refine sxo_pure rfl rfl rfl (by omega) ?_
    refine sxo_pure rfl rfl rfl trivial ?_
    refine sxo_end ?_
    refine sx_less (by refine .cons rfl ?_; refine .cons rfl ?_; refine .cons rfl ?_; exact .nil _) (.cons (.tail .head) (.skip .all)) (ih (j + 1, m') ⟨by simp only; omega, hm'⟩ (by simp only; omega))
  · simp at h
    have hj' : j = l.length := by omega
    subst hj'
    refine sx_exit rfl ?_
    refine sx_seq ?_
    refine sx_region ?_
    refine sxo_pure rfl rfl rfl trivial ?_
    refine sxo_end ?_
    refine sx_ret hret hro hk (.tmp rfl .nil) ⟨rfl, m, hm, rfl⟩
end Go.SX

namespace Go.SX
open Go.Proofs
attribute [local irreducible] SX SXo
set_option maxRecDepth 20000
theorem Take.permTo {m m' : List Ent} (t : Take m m' []) : m.Perm m' := by
  have := t.perm
  rw [List.append_nil] at this
  exact this.symm
theorem perm_mid {L M r : List Ent} : ((L ++ M) ++ r).Perm ((L ++ r) ++ M) := by
  rw [List.append_assoc, List.append_assoc]
  exact List.Perm.append_left L List.perm_append_comm
theorem TRV.frameQ {P : Program} {K : Hp} {Y : Value} {args : List SV1} {mem M r : List Ent} {Q Q' : SV → List Ent → Prop} (t : Take mem M r) (h : ∀ Kc, Sub K Kc → TRV P Kc Y args M Q) (hq : ∀ v m1, Q v m1 → ∃ m', (m1 ++ r).Perm m' ∧ Q' v m') : TRV P K Y args mem Q' := fun w hm => by
  obtain ⟨h0, d, s1, s2, o⟩ := hm
  obtain ⟨h1, h2, dd, t1, t2, o1, o2⟩ := OSat.take t o
  have dK2 : Dj K h2 := d.mono (Sub.refl _) t2
  have hdj : Dj (un K h2) h1 := Dj.un_left (d.mono (Sub.refl _) t1) dd.symm
  refine (h (un K h2) (sub_un_left _ _) w ⟨h1, hdj, un_sub s1 (t2.trans s2), t1.trans s2, o1⟩).mono ?_
  rintro u w' ⟨v, m, e, hQ, ⟨g, dg, sg, sg2, og⟩, ho⟩
  obtain ⟨m', tm, hQ'⟩ := hq v m hQ
  have dKg : Dj K g := dg.mono (sub_un_left _ _) (Sub.refl _)
  have d2g : Dj h2 g := dg.mono (sub_un_right dK2) (Sub.refl _)
  refine ⟨v, m', e, hQ', MSat.perm tm ⟨un g h2, Dj.un_right dKg dK2, (sub_un_left _ _).trans sg, un_sub sg2 ((sub_un_right dK2).trans sg), OSat.append d2g.symm (sub_un_left _ _) (sub_un_right d2g.symm) og o2⟩, ho⟩
@[reducible] def jCh (bd : Nat) (name : ByteArray) (num sz ct : Int) (brk : Bool) : List Ch := [.c (.pointer (some ⟨bd, 0, none⟩)), .c (.string name), .c (.int .i64 num), .c (.int .i64 sz), .c (.int .i64 ct), .c (.bool brk)]
section
variable (K : Hp) (bj jb b5 b6 b9 bd : Nat) (name fresh : ByteArray) (num sz ct : Int) (brk : Bool) (room : Int) (bm : Nat) (st wr : Sl) (sts : List Nat) (names : List (ByteArray × Option Nat))
theorem put2_ok (hg : goodS fresh = true) (hs : sts.length ≤ 1000) (hn : names.length < 200) (hno : mget names fresh = none) :
    TR Tryz.prog K 227 [evPtr bj, evPtr b5] [.blk bj 125 [.c (.pointer (some ⟨jb, 0, none⟩))], .blk jb 239 (jCh bd name num sz ct brk), .blk b5 9 [.c (.string fresh)], .blk bd 62 (diskCh room bm st wr), .map bm ekStr evPO names, .vec st 58 1 encMp sts]
    fun v r => ∃ b' st' sts' f, v = .s (.o (.int .i64 0)) ∧ sts'.length = sts.length + 1 ∧ r = [.blk bj 125 [.c (.pointer (some ⟨jb, 0, none⟩))], .blk jb 239 (jCh bd name num sz ct brk), .blk b5 9 [.c (.string fresh)],
      .blk bd 62 (diskCh room b' st' wr), .map b' ekStr evPO (mput names fresh (some f)), .vec st' 58 1 encMp sts', .blk f 326 (fileCh ⟨none, 0, 0⟩ ⟨none, 0, 0⟩)] := by
  refine tr_intro Tryz.func227 rfl rfl rfl fun cx hro hk hret => ?_
  refine sx_seq ?_
  refine sx_region ?_
  refine sxo_pure rfl rfl rfl trivial ?_
  refine sxo_end ?_
  refine sx_seq ?_
  refine sx_drawN 1 (by kernel_rfl) [0, 1, 2, 3, 4, 5, 6] [] (by kernel_rfl) ?_
  refine sxo_load rfl rfl rfl (by exact .head) rfl rfl rfl rfl ?_
  refine sxo_pure rfl rfl rfl trivial ?_
  refine sxo_pure rfl rfl rfl trivial ?_
  refine sxo_load rfl rfl rfl (by exact .tail .head) rfl rfl rfl rfl ?_
  refine sxo_load rfl rfl rfl (by exact .tail (.tail .head)) rfl rfl rfl rfl ?_
  refine sxo_call0 rfl rfl rfl rfl (by (apply Take.cons; focus exact .tail (.tail (.tail .head))); (apply Take.cons; focus exact .tail (.tail (.tail .head))); (apply Take.cons; focus exact .tail (.tail (.tail .head))); exact .nil) (fun Kc hK hB => Create_ok Kc bd room bm st wr sts names fresh hg hs hn hno) rfl rfl ?_ (hH := by rintro v m ⟨b', st', sts', f, rfl, hst, rfl⟩; (exact hh_nil))
  rintro v m ⟨b', st', sts', f, rfl, hst, rfl⟩
  simp only [List.cons_append, List.nil_append, List.append_nil, resV]
  refine sxo_pure rfl rfl rfl trivial ?_
  refine sxo_end ?_
  refine sx_retL hret hro hk (.tmp rfl .nil) ⟨b', st', sts', f, rfl, hst, rfl⟩ (by (apply Take.cons; focus exact .tail (.tail (.tail (.tail .head)))); (apply Take.cons; focus exact .tail (.tail (.tail (.tail .head)))); (apply Take.cons; focus exact .tail (.tail (.tail (.tail .head)))); (apply Take.cons; focus exact .head); (apply Take.cons; focus exact .head); (apply Take.cons; focus exact .head); (apply Take.cons; focus exact .head); exact .nil)
theorem put3_ok (w0 : List Late) (f : Nat) (s2 : Sl) (M0 : List Ent) (ws : Sl) (l : List UInt8)
    (hg : goodS fresh = true) (hroom : 201000 ≤ room) (hw : w0.length ≤ 1000) (hl : l.length ≤ 1000) (hn : names.length ≤ 200) (hfn : mget names fresh = some (some f))
    (hf : ∀ x ∈ names, ∃ g s1 s2' r, x.2 = some g ∧ Pick (.blk f 326 (fileCh ⟨none, 0, 0⟩ s2) :: M0) (.blk g 326 (fileCh s1 s2')) r ∧ s1.n ≤ 1000) :
    TR Tryz.prog K 228 [evPtr bj, evPtr b5, evPtr b9] ([.blk bj 125 [.c (.pointer (some ⟨jb, 0, none⟩))], .blk jb 239 (jCh bd name num sz ct brk), .blk b5 9 [.c (.string fresh)], .blk b9 38 [.c ws.v],
      .blk bd 62 (diskCh room bm st wr), .map bm ekStr evPO names, .vec wr 370 3 encLate w0, .vec ws 5 1 encB l, .blk f 326 (fileCh ⟨none, 0, 0⟩ s2)] ++ M0)
    fun v r => ∃ a wr' b, a.n = l.length ∧ v = .s (.o (.int .i64 0)) ∧ r = [.blk bj 125 [.c (.pointer (some ⟨jb, 0, none⟩))], .blk jb 239 (jCh bd name num sz ct brk), .blk b5 9 [.c (.string fresh)], .blk b9 38 [.c ws.v],
      .blk bd 62 (diskCh room bm st wr'), .map bm ekStr evPO names, .vec wr' 370 3 encLate (w0 ++ [⟨some f, 0, b⟩]), .vec ws 5 1 encB l, .blk f 326 (fileCh a s2)] ++ M0 := by
  obtain ⟨p, n, c⟩ := ws
  simp only [List.cons_append, List.nil_append]
  refine tr_intro Tryz.func228 rfl rfl rfl fun cx hro hk hret => ?_
  refine sx_seq ?_
  refine sx_region ?_
  refine sxo_pure rfl rfl rfl trivial ?_
  refine sxo_end ?_
  refine sx_seq ?_
  refine sx_drawN 1 (by kernel_rfl) [0, 1, 2, 3, 4, 5, 6, 7] [] (by kernel_rfl) ?_
  refine sxo_load rfl rfl rfl (by exact .head) rfl rfl rfl rfl ?_
  refine sxo_pure rfl rfl rfl trivial ?_
  refine sxo_pure rfl rfl rfl trivial ?_
  refine sxo_load rfl rfl rfl (by exact .tail .head) rfl rfl rfl rfl ?_
  refine sxo_load rfl rfl rfl (by exact .tail (.tail .head)) rfl rfl rfl rfl ?_
  refine sxo_load rfl rfl rfl (by exact .tail (.tail (.tail .head))) rfl rfl rfl rfl ?_
  refine sxo_call0 rfl rfl rfl rfl (.cons (.tail (.tail (.tail (.tail .head)))) (.cons (.tail (.tail (.tail (.tail .head)))) (.cons (.tail (.tail (.tail (.tail .head)))) (.cons (.tail (.tail (.tail (.tail .head)))) (.cons (.tail (.tail (.tail (.tail .head)))) (.skip (.skip (.skip (.skip .all)))))))))
    (fun Kc hK hB => Write_ok Kc bd room bm st wr w0 names fresh f s2 M0 p n c l hg hroom hw hl hn hfn hf) rfl rfl ?_ (hH := by rintro v m ⟨a, wr', b, ha, rfl, rfl⟩; (exact hh_nil))
  rintro v m ⟨a, wr', b, ha, rfl, rfl⟩
  refine sxo_perm List.perm_append_comm ?_
  simp only [List.cons_append, List.nil_append]
  refine sxo_pure rfl rfl rfl trivial ?_
  refine sxo_end ?_
  refine sx_retL hret hro hk (.tmp rfl .nil) ⟨a, wr', b, ha, rfl, rfl⟩ .all
theorem put4_ok (w : Late) (f : Nat) (a s2 : Sl) (hg : goodS fresh = true) (hfn : mget names fresh = some (some f)) (hw : w.file = some f) :
    TR Tryz.prog K 229 [evPtr bj, evPtr b5] [.blk bj 125 [.c (.pointer (some ⟨jb, 0, none⟩))], .blk jb 239 (jCh bd name num sz ct brk), .blk b5 9 [.c (.string fresh)], .blk bd 62 (diskCh room bm st wr), .map bm ekStr evPO names, .vec wr 370 3 encLate [w], .blk f 326 (fileCh a s2)]
    fun v r => v = .s (.o (.int .i64 0)) ∧ r = [.blk bj 125 [.c (.pointer (some ⟨jb, 0, none⟩))], .blk jb 239 (jCh bd name num sz ct brk), .blk b5 9 [.c (.string fresh)], .blk bd 62 (diskCh room bm st ⟨wr.p, 0, wr.c⟩), .map bm ekStr evPO names, .vec ⟨wr.p, 0, wr.c⟩ 370 3 encLate [], .blk f 326 (fileCh a a)] := by
  refine tr_intro Tryz.func229 rfl rfl rfl fun cx hro hk hret => ?_
  refine sx_seq ?_
  refine sx_region ?_
  refine sxo_pure rfl rfl rfl trivial ?_
  refine sxo_end ?_
  refine sx_seq ?_
  refine sx_drawN 1 (by kernel_rfl) [0, 1, 2, 3, 4, 5, 6] [] (by kernel_rfl) ?_
  refine sxo_load rfl rfl rfl (by exact .head) rfl rfl rfl rfl ?_
  refine sxo_pure rfl rfl rfl trivial ?_
  refine sxo_pure rfl rfl rfl trivial ?_
  refine sxo_load rfl rfl rfl (by exact .tail .head) rfl rfl rfl rfl ?_
  refine sxo_load rfl rfl rfl (by exact .tail (.tail .head)) rfl rfl rfl rfl ?_
  refine sxo_call0 rfl rfl rfl rfl (by (apply Take.cons; focus exact .tail (.tail (.tail .head))); (apply Take.cons; focus exact .tail (.tail (.tail .head))); (apply Take.cons; focus exact .tail (.tail (.tail .head))); (apply Take.cons; focus exact .tail (.tail (.tail .head))); exact .nil) (fun Kc hK hB => Sync_ok Kc bd room bm st wr w names fresh f a s2 hg hfn hw) rfl rfl ?_ (hH := by rintro v m ⟨rfl, rfl⟩; (exact hh_nil))
  rintro v m ⟨rfl, rfl⟩
  simp only [List.cons_append, List.nil_append, List.append_nil, resV]
  refine sxo_pure rfl rfl rfl trivial ?_
  refine sxo_end ?_
  refine sx_retL hret hro hk (.tmp rfl .nil) ⟨rfl, rfl⟩ (by (apply Take.cons; focus exact .tail (.tail (.tail (.tail .head)))); (apply Take.cons; focus exact .tail (.tail (.tail (.tail .head)))); (apply Take.cons; focus exact .tail (.tail (.tail (.tail .head)))); (apply Take.cons; focus exact .head); (apply Take.cons; focus exact .head); (apply Take.cons; focus exact .head); (apply Take.cons; focus exact .head); exact .nil)
theorem put5_ok (f : Nat) (hg1 : goodS fresh = true) (hg2 : goodS name = true) (hs : sts.length ≤ 1000) (hfn : mget names fresh = some (some f)) :
    TR Tryz.prog K 231 [evPtr bj, evPtr b5] [.blk bj 125 [.c (.pointer (some ⟨jb, 0, none⟩))], .blk jb 239 (jCh bd name num sz ct brk), .blk b5 9 [.c (.string fresh)], .blk bd 62 (diskCh room bm st wr), .map bm ekStr evPO names, .vec st 58 1 encMp sts]
    fun v r => ∃ b' st' sts', v = .s (.o (.int .i64 0)) ∧ sts'.length = sts.length + 1 ∧ r = [.blk bj 125 [.c (.pointer (some ⟨jb, 0, none⟩))], .blk jb 239 (jCh bd name num sz ct brk), .blk b5 9 [.c (.string fresh)], .blk bd 62 (diskCh room b' st' wr), .map b' ekStr evPO (mput (mdel names fresh) name (some f)), .vec st' 58 1 encMp sts'] := by
  refine tr_intro Tryz.func231 rfl rfl rfl fun cx hro hk hret => ?_
  refine sx_seq ?_
  refine sx_region ?_
  refine sxo_pure rfl rfl rfl trivial ?_
  refine sxo_end ?_
  refine sx_seq ?_
  refine sx_drawN 1 (by kernel_rfl) [0, 1, 2, 3, 4, 5, 6, 7, 8, 9, 10] [] (by kernel_rfl) ?_
  refine sxo_load rfl rfl rfl (by exact .head) rfl rfl rfl rfl ?_
  refine sxo_pure rfl rfl rfl trivial ?_
  refine sxo_pure rfl rfl rfl trivial ?_
  refine sxo_load rfl rfl rfl (by exact .tail .head) rfl rfl rfl rfl ?_
  refine sxo_load rfl rfl rfl (by exact .tail (.tail .head)) rfl rfl rfl rfl ?_
  refine sxo_load rfl rfl rfl (by exact .head) rfl rfl rfl rfl ?_
  refine sxo_pure rfl rfl rfl trivial ?_
  refine sxo_pure rfl rfl rfl trivial ?_
  refine sxo_load rfl rfl rfl (by exact .tail .head) rfl rfl rfl rfl ?_
  refine sxo_call0 rfl rfl rfl rfl (by (apply Take.cons; focus exact .tail (.tail (.tail .head))); (apply Take.cons; focus exact .tail (.tail (.tail .head))); (apply Take.cons; focus exact .tail (.tail (.tail .head))); exact .nil) (fun Kc hK hB => Rename_ok Kc bd room bm st wr sts names fresh name f hg1 hg2 hs hfn) rfl rfl ?_ (hH := by rintro v m ⟨b', st', sts', rfl, hst, rfl⟩; (exact hh_nil))
  rintro v m ⟨b', st', sts', rfl, hst, rfl⟩
  simp only [List.cons_append, List.nil_append, List.append_nil, resV]
  refine sxo_pure rfl rfl rfl trivial ?_
  refine sxo_end ?_
  refine sx_retL hret hro hk (.tmp rfl .nil) ⟨b', st', sts', rfl, hst, rfl⟩ (by (apply Take.cons; focus exact .tail (.tail (.tail .head))); (apply Take.cons; focus exact .tail (.tail (.tail .head))); (apply Take.cons; focus exact .tail (.tail (.tail .head))); (apply Take.cons; focus exact .head); (apply Take.cons; focus exact .head); (apply Take.cons; focus exact .head); exact .nil)
theorem put6_ok : TR Tryz.prog K 233 [evPtr b6, evPtr bj] [.blk b6 38 [.c (.slice none 0 0)], .blk bj 125 [.c (.pointer (some ⟨jb, 0, none⟩))], .blk jb 239 (jCh bd name num sz ct brk)]
    fun v r => v = .s (.o (.int .i64 0)) ∧ r = [.blk b6 38 [.c (.slice none 0 0)], .blk bj 125 [.c (.pointer (some ⟨jb, 0, none⟩))], .blk jb 239 (jCh bd name 1 0 0 brk)] := by
  refine tr_intro Tryz.func233 rfl rfl rfl fun cx hro hk hret => ?_
  refine sx_seq ?_
  refine sx_region ?_
  refine sxo_pure rfl rfl rfl trivial ?_
  refine sxo_end ?_
  refine sx_seq ?_
  refine sx_drawN 1 (by kernel_rfl) [0, 1, 2, 3, 4, 5, 6, 7, 8, 9, 10, 11, 12, 13, 14, 15] [(1, 9), (2, 9), (2, 12), (3, 9), (4, 9), (5, 9), (5, 12), (6, 9), (6, 12)] (by kernel_rfl) ?_
  refine sxo_load rfl rfl rfl (by exact .tail .head) rfl rfl rfl rfl ?_
  refine sxo_loadF rfl rfl rfl (by exact .tail .head) rfl rfl rfl ?_
  refine sxo_loadF rfl rfl rfl (by exact .tail .head) rfl rfl rfl ?_
  refine sxo_loadF rfl rfl rfl (by exact .head) rfl rfl rfl ?_
  refine sxo_lenVF rfl rfl rfl rfl rfl rfl ?_
  refine sxo_loadF rfl rfl rfl (by exact .head) rfl rfl rfl ?_
  refine sxo_lenVF rfl rfl rfl rfl rfl rfl ?_
  refine sxo_pure rfl rfl rfl trivial ?_
  refine sxo_pure rfl rfl rfl trivial ?_
  refine sxo_store rfl rfl rfl rfl (by exact .tail (.tail .head)) rfl rfl rfl rfl rfl ?_
  refine sxo_pure rfl rfl rfl trivial ?_
  refine sxo_pure rfl rfl rfl trivial ?_
  refine sxo_store rfl rfl rfl rfl (by exact .head) rfl rfl rfl rfl rfl ?_
  refine sxo_pure rfl rfl rfl trivial ?_
  refine sxo_pure rfl rfl rfl trivial ?_
  refine sxo_store rfl rfl rfl rfl (by exact .head) rfl rfl rfl rfl rfl ?_
  refine sxo_end ?_
  refine sx_seq ?_
  refine sx_region ?_
  refine sxo_pure rfl rfl rfl trivial ?_
  refine sxo_end ?_
  refine sx_retL hret hro hk (.tmp rfl .nil) ⟨rfl, rfl⟩ (by (apply Take.cons; focus exact .tail .head); (apply Take.cons; focus exact .tail .head); (apply Take.cons; focus exact .head); exact .nil)
end
end Go.SX
