/-
  Hashes held against each other; maps by hash that have nothing; arrays that are written down.
  wire: a message that may be.
-/
import Derived.Test.YtbeokgkcndcahaaGreatDoorQ17
import Derived.ChangeKeysEq
import Derived.Test.YtbeokgkcndcahaaGreatDoorQ19
import Derived.KernelRfl
set_option linter.all false
namespace Go.SX
theorem digs_at {D : Dig} {i : Nat} (h : i < 32) : ∃ c : UInt8, (agv [Ch.d D]) = .agg (flat [Ch.d D]).toArray ∧ (flat [Ch.d D])[i]? = some (Value.int .u8 c.toNat) := by
  have hl : i < D.bs.length := by rw [D.h]; exact h
  exact ⟨D.bs[i], rfl, by simp [flat, Ch.vals, Dig.vals, List.getElem?_eq_getElem hl]⟩
section
variable {P : Program} [Tab P] {N : Nat} {cx : Cx P N} {K : Hp} {ds : List Deferred} {k : List Item} {env : Env} {mem r : List Ent} {rg : Rg} {H : List HE} {R : List (Nat × Oper)} {i : Nat} {o : Oper}
variable {T eT : TypeId} {ti te : TInf} {x y : Operand}
def sameDig (D E : Dig) : List Nat → Bool
  | [] => true
  | i :: r => match (flat [Ch.d D])[i]?, (flat [Ch.d E])[i]? with
    | some (.int _ a), some (.int _ b) => (a == b) && sameDig D E r
    | _, _ => false
theorem part_dig {D : Dig} {j : Nat} {c : Value} (he : Tab.ti P eT = some te) (hed : te.d = .int .u8) (hc : (flat [Ch.d D])[j]? = some c) (w : World) : (part eT (flat [Ch.d D]).toArray j).run P w = .ok c w := by
  have hagg := (Tab.ok eT te he).isAgg w
  have hna : te.agg = false := by simp [TInf.agg, hed]
  rw [hna] at hagg
  simp [part, hagg, hc]
theorem eqItems_dig (d : Nat) {D E : Dig} (he : Tab.ti P eT = some te) (hed : te.d = .int .u8) (w : World) : ∀ is : List Nat, (∀ i ∈ is, i < 32) → (Op.eqItems (d + 1) eT 1 (flat [Ch.d D]).toArray (flat [Ch.d E]).toArray is).run P w = .ok (sameDig D E is) w
  | [], _ => by simp [Op.eqItems, sameDig]
  | j :: is, h => by
    have hue : P.underlying eT = some (.int .u8) := by have := (Tab.ok eT te he).desc; rw [hed] at this; exact this
    obtain ⟨a, _, ha⟩ := digs_at (D := D) (h j List.mem_cons_self)
    obtain ⟨b, _, hb⟩ := digs_at (D := E) (h j List.mem_cons_self)
    have pa := part_dig (P := P) he hed ha w
    have pb := part_dig (P := P) he hed hb w
    have hq : (Op.equalIn (d + 1) eT (.int .u8 a.toNat) (.int .u8 b.toNat)).run P w = .ok ((a.toNat : Int) == (b.toNat : Int)) w := run_equalIn_int w d eT .u8 .u8 _ _ hue
    have ih := eqItems_dig d he hed w is (fun i hi => h i (List.mem_cons_of_mem _ hi)) (D := D) (E := E)
    simp only [Op.eqItems, Sem.run_bind, Nat.mul_one, pa, pb, Result.andThen_ok, hq, sameDig, ha, hb]
    cases hab : ((a.toNat : Int) == (b.toNat : Int))
    · simp
    · simpa using ih
theorem eqDig_run {D E : Dig} (ht : Tab.ti P T = some ti) (hd : ti.d = .array 32 eT) (he : Tab.ti P eT = some te) (hed : te.d = .int .u8) (hsz : te.size = 1) (w : World) :
    (Op.equal T (agv [.d D]) (agv [.d E])).run P w = .ok (sameDig D E (List.range 32)) w := by
  have hu : P.underlying T = some (.array 32 eT) := by have := (Tab.ok T ti ht).desc; rw [hd] at this; exact this
  obtain ⟨xi, hxi, _⟩ := (Tab.ok eT te he).info
  have hc : P.cellsOf eT = 1 := by
    have h1 := (Tab.ok eT te he).size w
    have h2 := run_sizeOf (P := P) w hxi
    rw [h2, hsz] at h1
    exact (Result.ok.inj h1).1
  have h1 := run_equalIn_array w 9999 (t := T) (flat [Ch.d D]).toArray (flat [Ch.d E]).toArray hu hxi
  rw [hc] at h1
  show (Op.equalIn (9999 + 1) T (.agg _) (.agg _)).run P w = _
  rw [h1]
  exact eqItems_dig 9998 he hed w (List.range 32) (fun i hi => List.mem_range.1 hi)
theorem eqDig_guard {D E : Dig} (ht : Tab.ti P T = some ti) (hd : ti.d = .array 32 eT) (he : Tab.ti P eT = some te) (hed : te.d = .int .u8) (w : World) :
    (eqGuard .eql T x y (agv [.d D]) (agv [.d E])).run P w = .ok () w := by
  have hu : P.underlying T = some (.array 32 eT) := by have := (Tab.ok T ti ht).desc; rw [hd] at this; exact this
  have hue : P.underlying eT = some (.int .u8) := by have := (Tab.ok eT te he).desc; rw [hed] at this; exact this
  have hg : P.eqGuardType P.depth T = false := by
    unfold Program.depth
    simp [Program.eqGuardType, hu, hue]
  simp [eqGuard, agv, hg]
/-- Two hashes: equal or not. -/
theorem sxo_eqDig {u : TypeId} {D E : Dig} (ho : o.op = .binOp .eql T x y u) (hg : guardE rg.ops o env = some true) (hx : ev env x = some (.s (.g [.d D]))) (hy : ev env y = some (.s (.g [.d E])))
    (ht : Tab.ti P T = some ti) (hd : ti.d = .array 32 eT) (he : Tab.ti P eT = some te) (hed : te.d = .int .u8) (hsz : te.size = 1) (hdst : dstOk N o.dst = true)
    (h : ∀ b : Bool, SXo cx K ds rg H R k (setE env o.dst (.s (.o (.bool b)))) mem) (hH : ∀ x ∈ H, rg.fr P x.idx i = true → x.chk (mem) := by repeat (first | exact hh_nil | refine hh_free rfl ?_ | refine hh_chk ⟨_, _, _, (by first | exact .head | exact .tail .head | exact .tail (.tail .head) | exact .tail (.tail (.tail .head)) | exact .tail (.tail (.tail (.tail .head)))), (by rfl)⟩ ?_ | refine hh_chk trivial ?_)) : SXo cx K ds rg H ((i, o) :: R) k env mem :=
  sxo_any (v := .s (.o (.bool (sameDig D E (List.range 32))))) hg (by rw [ho]; rfl) hdst (fun a hs w => by
    have e : binOp .eql T (agv [.d D]) (agv [.d E]) = (do pure (.bool (← Op.equal T (agv [.d D]) (agv [.d E])))) := rfl
    have q := eqDig_run (P := P) (D := D) (E := E) ht hd he hed hsz w
    have g := eqDig_guard (P := P) (D := D) (E := E) (x := x) (y := y) ht hd he hed w
    simp only [execOp, ho, hs.eval hx, hs.eval hy, Sem.run_bind, g, e, q, Result.andThen_ok, Sem.run_pure]) hH (h _)
theorem checkKey_digN {D : Dig} (em : Bool) (d : Nat) (ht : Tab.ti P T = some ti) (hd : ti.d = .array 32 eT) (he : Tab.ti P eT = some te) (hed : te.d = .int .u8) (hsz : te.size = 1) (w : World) :
    (Instr.checkKey em (d + 1 + 1) T (agv [.d D])).run P w = .ok () w := by
  have hu : P.underlying T = some (.array 32 eT) := by have := (Tab.ok T ti ht).desc; rw [hd] at this; exact this
  have hue : P.underlying eT = some (.int .u8) := by have := (Tab.ok eT te he).desc; rw [hed] at this; exact this
  have hs1 := (Tab.ok eT te he).size w
  rw [hsz] at hs1
  rw [Instr.checkKey, agv]
  simp only [Sem.run_bind, run_underlying hu, Result.andThen_ok]
  simp only [Std.Legacy.Range.forIn_eq_forIn_range', Std.Legacy.Range.size, Nat.sub_zero, Nat.add_one_sub_one, Nat.div_one]
  have hm : ∀ i ∈ List.range' 0 32, i < 32 := fun i hi => by simp at hi; exact hi
  generalize List.range' 0 32 = is at hm
  induction is with
  | nil => simp
  | cons j is ih =>
    obtain ⟨a, _, ha⟩ := digs_at (D := D) (hm j List.mem_cons_self)
    have pa := part_dig (P := P) he hed ha w
    have hck : (Instr.checkKey em (d + 1) eT (.int .u8 a.toNat)).run P w = .ok () w := by
      rw [Instr.checkKey]
      simp only [Sem.run_bind, run_underlying hue, Result.andThen_ok, Sem.run_pure]
    simp only [List.forIn_cons, Sem.run_bind, hs1, Result.andThen_ok, Nat.mul_one, pa, hck, Sem.run_pure]
    simpa using ih (fun i hi => hm i (List.mem_cons_of_mem _ hi))
theorem checkKey_dig {D : Dig} (em : Bool) (ht : Tab.ti P T = some ti) (hd : ti.d = .array 32 eT) (he : Tab.ti P eT = some te) (hed : te.d = .int .u8) (hsz : te.size = 1) (w : World) :
    (Instr.checkKey em 10000 T (agv [.d D])).run P w = .ok () w := checkKey_digN em 9998 ht hd he hed hsz w
instance digEq : DecidableEq Dig := fun a b => if h : a.bs = b.bs then isTrue (by cases a; cases b; cases h; rfl) else isFalse (fun e => h (by rw [e]))
@[reducible] def ekDig (D : Dig) : SV1 := .g [.d D]
theorem run_lookup_dig {kT vT : TypeId} {tk : TInf} {b : Nat} {ν : Type} {ev' : ν → SV1} (hu : P.underlying T = some (.map kT vT)) (htk : Tab.ti P kT = some tk) (hkd : tk.d = .array 32 eT) (he : Tab.ti P eT = some te) (hed : te.d = .int .u8) (hsz : te.size = 1)
    {w : World} (hm : MapAt b ekDig ev' [] (vw w)) (D : Dig) (z : SV1) (hz : ∀ w, (zeroValue vT).run P w = .ok z.val w) (ok : Bool) :
    (Instr.lookup T (.map (some b)) (ekDig D).val ok).run P w = .ok (if ok then .tuple #[z.val, .bool false] else z.val) w := by
  obtain ⟨es, clock, hb, hes, _, _⟩ := hm
  have hrun : (underlying T).run P w = .ok (.map kT vT) w := run_underlying hu w
  have hu1 : P.underlying kT = some (.array 32 eT) := by have := (Tab.ok kT tk htk).desc; rw [hkd] at this; exact this
  have hgo : (getObj b).run P w = .ok (.map es clock) w := by simp only [vw] at hb; simp [getObj, Sem.run, hb]
  have hnil : es.toList = [] := by simpa using hes
  have hck := checkKey_dig (P := P) (D := D) es.isEmpty htk hkd he hed hsz w
  have hfk : (Instr.findKey kT (agv [.d D]) []).run P w = .ok none w := by simp [Instr.findKey, run_underlying hu1, Instr.findNow]
  simp only [Instr.lookup, Sem.run_bind, hrun, Result.andThen_ok, hgo, Sem.run_pure, SV1.val, hck, hnil, hfk, hz]
end
section
variable {P : Program} [Tab P] {N : Nat} {cx : Cx P N} {K : Hp} {ds : List Deferred} {k : List Item} {env : Env} {mem r : List Ent} {rg : Rg} {H : List HE} {R : List (Nat × Oper)} {i : Nat} {o : Oper}
variable {T eT kT vT : TypeId} {ti te tk tv : TInf} {x y : Operand}
/-- A map by hash that has nothing: a lookup. -/
theorem sxo_lookupDig {ν : Type} {ev' : ν → SV1} {b : Nat} {D : Dig} {z0 : ν} {c : Bool} (ho : o.op = .lookup T x y c) (hg : guardE rg.ops o env = some true) (hx : ev env x = some (.s (.o (.map (some b))))) (hy : ev env y = some (.s (.g [.d D])))
    (hb : Pick mem (.map b ekDig ev' []) r) (ht : Tab.ti P T = some ti) (hd : ti.d = .map kT vT) (htk : Tab.ti P kT = some tk) (hkd : tk.d = .array 32 eT) (he : Tab.ti P eT = some te) (hed : te.d = .int .u8) (hsz : te.size = 1)
    (htv : Tab.ti P vT = some tv) (hz : tv.zero = (ev' z0).ch) (hs : zshape tv (ev' z0) = true) (hdst : dstOk N o.dst = true) (hst : rg.flo.any (fun x => Nat.beq x.1 i) = false)
    (h : SXo cx K ds rg H R k (setE env o.dst (if c then .t [ev' z0, .o (.bool false)] else .s (ev' z0))) mem) (hH : ∀ x ∈ H, rg.fr P x.idx i = true → x.chk (mem) := by repeat (first | exact hh_nil | refine hh_free rfl ?_ | refine hh_chk ⟨_, _, _, (by first | exact .head | exact .tail .head | exact .tail (.tail .head) | exact .tail (.tail (.tail .head)) | exact .tail (.tail (.tail (.tail .head)))), (by rfl)⟩ ?_ | refine hh_chk trivial ?_)) : SXo cx K ds rg H ((i, o) :: R) k env mem :=
  sxo_val (v := if c then .t [ev' z0, .o (.bool false)] else .s (ev' z0)) (pu := False) (chk := fun _ => False) hg (by rw [ho]; rfl) hdst (fun a w s => by
    have := run_lookup_dig (P := P) (T := T) (tab_map ht hd) htk hkd he hed hsz (MSat.map (MSat.pick hb s.mem)) D (ev' z0) (fun w => zero_val htv hz hs w) c
    cases c with
    | false =>
      simp only [Bool.false_eq_true, if_false] at this ⊢
      simp [execOp, ho, s.env.eval hx, s.env.eval hy, this]
    | true =>
      simp only [if_true] at this ⊢
      simp [execOp, ho, s.env.eval hx, s.env.eval hy, this]) (.still (by rw [ho]; rfl) hst) (fun h => h.elim) (fun _ h => h.elim) hH h
/-- A place of an array of single cells. -/
theorem sxo_indexC {cs : List Ch} {j : Int} {ik : IntKind} {n : Nat} {v : Value} (ho : o.op = .index T x y) (hg : guardE rg.ops o env = some true) (hx : ev env x = some (.s (.g cs))) (hy : ev env y = some (.s (.o (.int ik j))))
    (ht : Tab.ti P T = some ti) (hd : ti.d = .array n eT) (he : Tab.ti P eT = some te) (hea : te.agg = false) (hsz : te.size = 1) (hj : 0 ≤ j ∧ j < n) (hv : (flat cs)[j.toNat]? = some v) (hdst : dstOk N o.dst = true)
    (h : SXo cx K ds rg H R k (setE env o.dst (.s (.o v))) mem) (hH : ∀ x ∈ H, rg.fr P x.idx i = true → x.chk (mem) := by repeat (first | exact hh_nil | refine hh_free rfl ?_ | refine hh_chk ⟨_, _, _, (by first | exact .head | exact .tail .head | exact .tail (.tail .head) | exact .tail (.tail (.tail .head)) | exact .tail (.tail (.tail (.tail .head)))), (by rfl)⟩ ?_ | refine hh_chk trivial ?_)) : SXo cx K ds rg H ((i, o) :: R) k env mem :=
  sxo_any (v := .s (.o v)) hg (by rw [ho]; rfl) hdst (fun a he' w => by
    have hu : P.underlying T = some (.array n eT) := by have := (Tab.ok T ti ht).desc; rw [hd] at this; exact this
    have hrun : (underlying T).run P w = .ok (.array n eT) w := run_underlying hu w
    have hsize := (Tab.ok eT te he).size w
    have hagg := (Tab.ok eT te he).isAgg w
    rw [hsz] at hsize
    rw [hea] at hagg
    simp [execOp, ho, he'.eval hx, he'.eval hy, Instr.index, asIntOf, hrun, hj.1, hj.2, hsize, part, hagg, agv, hv]) hH h
/-- An array that is written down. -/
theorem sxo_buildA {n : Nat} {parts : Array (Nat × Operand)} {vs : List (Nat × SV1)} {cs : List Ch} {z0 : Ch} {zs : List Ch} (ho : o.op = .build T parts) (hg : guardE rg.ops o env = some true) (hp : partsE env parts.toList = some vs)
    (ht : Tab.ti P T = some ti) (hd : ti.d = .array n eT) (he : Tab.ti P eT = some te) (hz : ti.zero = z0 :: zs) (hf : fillCh (fun i => some (i * te.size, te.size)) ti.zero vs = some cs) (hdst : dstOk N o.dst = true)
    (h : SXo cx K ds rg H R k (setE env o.dst (.s (.g cs))) mem) (hH : ∀ x ∈ H, rg.fr P x.idx i = true → x.chk mem := by repeat (first | exact hh_nil | refine hh_free rfl ?_ | refine hh_chk ⟨_, _, _, (by first | exact .head | exact .tail .head | exact .tail (.tail .head) | exact .tail (.tail (.tail .head)) | exact .tail (.tail (.tail (.tail .head)))), (by rfl)⟩ ?_ | refine hh_chk trivial ?_)) : SXo cx K ds rg H ((i, o) :: R) k env mem :=
  sxo_any (v := .s (.g cs)) hg (by rw [ho]; rfl) hdst (fun a he' w => by
    have hu : P.underlying T = some (.array n eT) := by have := (Tab.ok T ti ht).desc; rw [hd] at this; exact this
    have hrun : (underlying T).run P w = .ok (.array n eT) w := run_underlying hu w
    obtain ⟨z, hz1, hz2⟩ := zero_run (Tab.ok T ti ht) (by rw [hz]; simp)
    have hsz := (Tab.ok eT te he).size w
    have hfill := fillCh_spec (fun i => some (i * te.size, te.size)) (fun i => some (i * te.size, te.size)) (fun i x h => h) vs ti.zero cs hf
    have hpa : (parts.map fun x => (x.1, a.eval x.2)).toList = vs.map fun x => (x.1, x.2.val) := by rw [Array.toList_map]; exact partsE_eval he' hp
    have e2 : (parts.map fun x => match x with | (i, x) => (i, a.eval x)).toList = vs.map fun x => (x.1, x.2.val) := hpa
    simp only [execOp, ho, Instr.build, Sem.run_bind, hz1, Result.andThen_ok, hrun, hz2, hsz]
    rw [e2, hfill]
    rfl) hH h
/-- A hash that is written down by its first byte. -/
def digOne (n : Nat) (h : n < 256) : Dig := ⟨UInt8.ofNat n :: List.replicate 31 0, rfl⟩
theorem sxo_buildDig {n : Nat} (hn : n < 256) (ho : o.op = .build T #[(0, .const (.int .u8 n))]) (hg : guardE rg.ops o env = some true)
    (ht : Tab.ti P T = some ti) (hd : ti.d = .array 32 eT) (he : Tab.ti P eT = some te) (hsz : te.size = 1) (hz : ti.zero = [.d Dig.zero]) (hdst : dstOk N o.dst = true)
    (h : SXo cx K ds rg H R k (setE env o.dst (.s (.g [.d (digOne n hn)]))) mem) (hH : ∀ x ∈ H, rg.fr P x.idx i = true → x.chk mem := by repeat (first | exact hh_nil | refine hh_free rfl ?_ | refine hh_chk ⟨_, _, _, (by first | exact .head | exact .tail .head | exact .tail (.tail .head) | exact .tail (.tail (.tail .head)) | exact .tail (.tail (.tail (.tail .head)))), (by rfl)⟩ ?_ | refine hh_chk trivial ?_)) : SXo cx K ds rg H ((i, o) :: R) k env mem :=
  sxo_any (v := .s (.g [.d (digOne n hn)])) hg (by rw [ho]; rfl) hdst (fun a he' w => by
    have hu : P.underlying T = some (.array 32 eT) := by have := (Tab.ok T ti ht).desc; rw [hd] at this; exact this
    have hrun : (underlying T).run P w = .ok (.array 32 eT) w := run_underlying hu w
    obtain ⟨z, hz1, hz2⟩ := zero_run (Tab.ok T ti ht) (by rw [hz]; simp)
    have hsz' := (Tab.ok eT te he).size w
    rw [hsz] at hsz'
    have e : ((UInt8.ofNat n).toNat : Int) = n := by simp; omega
    have hf : Instr.fill (fun i => some (i * 1, 1)) z.cells [(0, .int .u8 n)] = some (flat [Ch.d (digOne n hn)]).toArray := by
      rw [hz2, hz, ← e]
      simp only [Instr.fill, Value.cells]
      rfl
    simp only [execOp, ho, Instr.build, Sem.run_bind, hz1, hrun, hsz', Result.andThen_ok, Act.eval, List.map_toArray, List.map_cons, List.map_nil, hf, Sem.run_pure, SV.val, SV1.val, agv]) hH h
end
end Go.SX

namespace Go.SX
open Go.Proofs
attribute [local irreducible] SX SXo
set_option maxRecDepth 20000
set_option maxHeartbeats 4000000
structure Msg where
  kind : Int
  hash : Dig
  piece : Int
  ids : Sl
  bytes : Sl
  proof : Sl
  mems : Sl
  seed : Bool
@[reducible] def encMsg (m : Msg) : List Ch := [.c (.int .i64 m.kind), .d m.hash, .c (.int .i64 m.piece), .c m.ids.v, .c m.bytes.v, .c m.proof.v, .c m.mems.v, .c (.bool m.seed)]
@[reducible] def evMsg (m : Msg) : SV1 := .g (encMsg m)
def ofI : Ch → Int
  | .c (.int _ n) => n
  | _ => 0
theorem sx_blkI {P : Program} [Tab P] {N : Nat} {cx : Cx P N} {K : Hp} {ds : List Deferred} {k : List Item} {env : Env} {mem r : List Ent} {b : Nat} {T : TypeId} {cs : List Ch} {n : Nat} (p : Pick mem (.blk b T cs) r) (hcs : cs = (cs.map ofI).flatMap encI) (hn : n = (cs.map ofI).length)
    (h : SX cx K ds k env (rdE ⟨some ⟨b, 0, none⟩, n, n⟩ T 1 encI (cs.map ofI) :: r)) : SX cx K ds k env mem := sx_recast (rdE ⟨some ⟨b, 0, none⟩, n, n⟩ T 1 encI (cs.map ofI)) p (fun _ hb => (blk_vec hb hcs hn (fun _ _ => rfl)).rd) h
@[reducible] def inR (n lo hi : Int) : Bool := decide (lo ≤ n) && decide (n ≤ hi)
theorem withinR_ok (K : Hp) (n lo hi : Int) : TR Tryz.prog K 176 [.o (.int .i64 n), .o (.int .i64 lo), .o (.int .i64 hi)] []
    fun v r => v = .s (.o (.bool (inR n lo hi))) ∧ r = [] := by
  refine tr_intro Tryz.func176 rfl rfl rfl fun cx hro hk hret => ?_
  refine sx_seq ?_
  refine sx_region ?_
  refine sxo_pure rfl rfl rfl trivial ?_
  refine sxo_end ?_
  refine sx_seq ?_
  refine sx_region ?_
  refine sxo_pure rfl rfl rfl trivial ?_
  refine sxo_pure rfl rfl rfl trivial ?_
  refine sxo_pure rfl rfl rfl trivial ?_
  refine sxo_pure rfl rfl rfl trivial ?_
  refine sxo_split (t := 10) rfl (fun h1 => ?_) (fun h1 => ?_)
  · refine sxo_pure rfl rfl rfl trivial ?_
    refine sxo_pure rfl rfl rfl trivial ?_
    refine sxo_pure rfl rfl rfl trivial ?_
    refine sxo_pure rfl rfl rfl trivial ?_
    refine sxo_pure rfl rfl rfl trivial ?_
    refine sxo_end ?_
    refine sx_retL hret hro hk (.tmp rfl .nil) ⟨by simp at h1; simp [inR, h1, resV], rfl⟩ (by exact .nil)
  · refine sxo_pass rfl rfl rfl ?_
    refine sxo_pass rfl rfl rfl ?_
    refine sxo_pass rfl rfl rfl ?_
    refine sxo_pure rfl rfl rfl trivial ?_
    refine sxo_pure rfl rfl rfl trivial ?_
    refine sxo_end ?_
    refine sx_retL hret hro hk (.tmp rfl .nil) ⟨by simp at h1; simp [inR, resV]; omega, rfl⟩ (by exact .nil)
theorem most_ok (K : Hp) (kind : Int) : TR Tryz.prog K 179 [.o (.int .i64 kind)] [] fun v r => (∃ n, v = .s (.o (.int .i64 n))) ∧ r = [] := by
  refine tr_intro Tryz.func179 rfl rfl rfl fun cx hro hk hret => ?_
  refine sx_seq ?_
  refine sx_region ?_
  refine sxo_pure rfl rfl rfl trivial ?_
  refine sxo_end ?_
  refine sx_seq ?_
  refine sx_seq ?_
  refine sx_region ?_
  refine sxo_pure rfl rfl rfl trivial ?_
  refine sxo_end ?_
  refine sx_block ?_
  refine sx_seq ?_
  refine sx_region ?_
  refine sxo_pure rfl rfl rfl trivial ?_
  refine sxo_pure rfl rfl rfl trivial ?_
  refine sxo_end ?_
  refine sx_cond rfl (fun _ => ?_) (fun _ => ?_)
  refine sx_seq ?_
  refine sx_region ?_
  refine sxo_pure rfl rfl rfl trivial ?_
  refine sxo_end ?_
  rotate_left
  refine sx_seq ?_
  refine sx_region ?_
  refine sxo_pure rfl rfl rfl trivial ?_
  refine sxo_pure rfl rfl rfl trivial ?_
  refine sxo_end ?_
  refine sx_cond rfl (fun _ => ?_) (fun _ => ?_)
  refine sx_seq ?_
  refine sx_region ?_
  refine sxo_pure rfl rfl rfl trivial ?_
  refine sxo_end ?_
  rotate_left
  refine sx_seq ?_
  refine sx_region ?_
  refine sxo_pure rfl rfl rfl trivial ?_
  refine sxo_pure rfl rfl rfl trivial ?_
  refine sxo_end ?_
  refine sx_cond rfl (fun _ => ?_) (fun _ => ?_)
  refine sx_seq ?_
  refine sx_region ?_
  refine sxo_pure rfl rfl rfl trivial ?_
  refine sxo_end ?_
  rotate_left
  refine sx_skip ?_
  refine sx_inBlock ?_
  refine sx_seq ?_
  refine sx_region ?_
  refine sxo_pure rfl rfl rfl trivial ?_
  refine sxo_end ?_
  rotate_left
  all_goals (refine sx_retL hret hro hk (.tmp rfl .nil) ⟨⟨_, rfl⟩, rfl⟩ (by repeat (first | exact .nil | (apply Take.cons; focus (first | exact .head | exact .tail .head | exact .tail (.tail .head) | exact .tail (.tail (.tail .head)) | exact .tail (.tail (.tail (.tail .head))) | exact .tail (.tail (.tail (.tail (.tail .head)))) | exact .tail (.tail (.tail (.tail (.tail (.tail .head))))) | exact .tail (.tail (.tail (.tail (.tail (.tail (.tail .head)))))) | exact .tail (.tail (.tail (.tail (.tail (.tail (.tail (.tail .head))))))) | exact .tail (.tail (.tail (.tail (.tail (.tail (.tail (.tail (.tail .head)))))))) | exact .tail (.tail (.tail (.tail (.tail (.tail (.tail (.tail (.tail (.tail .head))))))))) | exact .tail (.tail (.tail (.tail (.tail (.tail (.tail (.tail (.tail (.tail (.tail .head)))))))))) | exact .tail (.tail (.tail (.tail (.tail (.tail (.tail (.tail (.tail (.tail (.tail (.tail .head))))))))))) | exact .tail (.tail (.tail (.tail (.tail (.tail (.tail (.tail (.tail (.tail (.tail (.tail (.tail .head)))))))))))))))))
theorem has_ok (K : Hp) (kind : Int) : TR Tryz.prog K 85 [.o (.int .i64 kind)] [] fun v r => ∃ p n c, ∃ l : List Int, l.length ≤ 5 ∧ v = .s (.o (.slice p n c)) ∧ r = [rdE ⟨p, n, c⟩ 3 1 encI l] := by
  refine tr_intro Tryz.func85 rfl rfl rfl fun cx hro hk hret => ?_
  refine sx_seq ?_
  refine sx_region ?_
  refine sxo_pure rfl rfl rfl trivial ?_
  refine sxo_end ?_
  refine sx_seq ?_
  refine sx_seq ?_
  refine sx_region ?_
  refine sxo_pure rfl rfl rfl trivial ?_
  refine sxo_end ?_
  refine sx_block ?_
  refine sx_seq ?_
  refine sx_seq ?_
  refine sx_region ?_
  refine sxo_pure rfl rfl rfl trivial ?_
  refine sxo_pure rfl rfl rfl trivial ?_
  refine sxo_end ?_
  refine sx_cond rfl (fun _ => ?_) (fun _ => ?_)
  refine sx_skip ?_
  refine sx_cond rfl (fun _ => ?_) (fun _ => ?_)
  refine sx_seq ?_
  refine sx_region ?_
  refine sxo_buildSlice rfl rfl rfl rfl rfl rfl rfl rfl rfl rfl rfl rfl rfl (fun _ => ?_)
  refine sxo_pure rfl rfl rfl trivial ?_
  refine sxo_end ?_
  rotate_left
  refine sx_seq ?_
  refine sx_seq ?_
  refine sx_region ?_
  refine sxo_pure rfl rfl rfl trivial ?_
  refine sxo_pure rfl rfl rfl trivial ?_
  refine sxo_end ?_
  refine sx_cond rfl (fun _ => ?_) (fun _ => ?_)
  refine sx_skip ?_
  refine sx_cond rfl (fun _ => ?_) (fun _ => ?_)
  refine sx_seq ?_
  refine sx_region ?_
  refine sxo_buildSlice rfl rfl rfl rfl rfl rfl rfl rfl rfl rfl rfl rfl rfl (fun _ => ?_)
  refine sxo_pure rfl rfl rfl trivial ?_
  refine sxo_end ?_
  rotate_left
  refine sx_seq ?_
  refine sx_region ?_
  refine sxo_pure rfl rfl rfl trivial ?_
  refine sxo_pure rfl rfl rfl trivial ?_
  refine sxo_end ?_
  refine sx_cond rfl (fun _ => ?_) (fun _ => ?_)
  refine sx_seq ?_
  refine sx_region ?_
  refine sxo_buildSlice rfl rfl rfl rfl rfl rfl rfl rfl rfl rfl rfl rfl rfl (fun _ => ?_)
  refine sxo_pure rfl rfl rfl trivial ?_
  refine sxo_end ?_
  rotate_left
  refine sx_seq ?_
  refine sx_region ?_
  refine sxo_pure rfl rfl rfl trivial ?_
  refine sxo_pure rfl rfl rfl trivial ?_
  refine sxo_end ?_
  refine sx_cond rfl (fun _ => ?_) (fun _ => ?_)
  refine sx_seq ?_
  refine sx_region ?_
  refine sxo_buildSlice rfl rfl rfl rfl rfl rfl rfl rfl rfl rfl rfl rfl rfl (fun _ => ?_)
  refine sxo_pure rfl rfl rfl trivial ?_
  refine sxo_end ?_
  rotate_left
  refine sx_seq ?_
  refine sx_region ?_
  refine sxo_pure rfl rfl rfl trivial ?_
  refine sxo_pure rfl rfl rfl trivial ?_
  refine sxo_end ?_
  refine sx_cond rfl (fun _ => ?_) (fun _ => ?_)
  refine sx_seq ?_
  refine sx_region ?_
  refine sxo_buildSlice rfl rfl rfl rfl rfl rfl rfl rfl rfl rfl rfl rfl rfl (fun _ => ?_)
  refine sxo_pure rfl rfl rfl trivial ?_
  refine sxo_end ?_
  rotate_left
  refine sx_seq ?_
  refine sx_region ?_
  refine sxo_pure rfl rfl rfl trivial ?_
  refine sxo_pure rfl rfl rfl trivial ?_
  refine sxo_end ?_
  refine sx_cond rfl (fun _ => ?_) (fun _ => ?_)
  refine sx_seq ?_
  refine sx_region ?_
  refine sxo_buildSlice rfl rfl rfl rfl rfl rfl rfl rfl rfl rfl rfl rfl rfl (fun _ => ?_)
  refine sxo_pure rfl rfl rfl trivial ?_
  refine sxo_end ?_
  rotate_left
  refine sx_seq ?_
  refine sx_seq ?_
  refine sx_region ?_
  refine sxo_pure rfl rfl rfl trivial ?_
  refine sxo_pure rfl rfl rfl trivial ?_
  refine sxo_end ?_
  refine sx_cond rfl (fun _ => ?_) (fun _ => ?_)
  refine sx_skip ?_
  refine sx_cond rfl (fun _ => ?_) (fun _ => ?_)
  refine sx_seq ?_
  refine sx_region ?_
  refine sxo_buildSlice rfl rfl rfl rfl rfl rfl rfl rfl rfl rfl rfl rfl rfl (fun _ => ?_)
  refine sxo_pure rfl rfl rfl trivial ?_
  refine sxo_end ?_
  rotate_left
  refine sx_skip ?_
  refine sx_inBlock ?_
  refine sx_seq ?_
  refine sx_region ?_
  refine sxo_pure rfl rfl rfl trivial ?_
  refine sxo_end ?_
  rotate_left
  refine sx_region ?_
  refine sxo_pure rfl rfl rfl trivial ?_
  refine sxo_pure rfl rfl rfl trivial ?_
  refine sxo_end ?_
  refine sx_cond rfl (fun _ => ?_) (fun _ => ?_)
  refine sx_seq ?_
  refine sx_region ?_
  refine sxo_buildSlice rfl rfl rfl rfl rfl rfl rfl rfl rfl rfl rfl rfl rfl (fun _ => ?_)
  refine sxo_pure rfl rfl rfl trivial ?_
  refine sxo_end ?_
  rotate_left
  refine sx_skip ?_
  refine sx_inBlock ?_
  refine sx_seq ?_
  refine sx_region ?_
  refine sxo_pure rfl rfl rfl trivial ?_
  refine sxo_end ?_
  rotate_left
  refine sx_seq ?_
  refine sx_region ?_
  refine sxo_pure rfl rfl rfl trivial ?_
  refine sxo_pure rfl rfl rfl trivial ?_
  refine sxo_end ?_
  refine sx_cond rfl (fun _ => ?_) (fun _ => ?_)
  refine sx_skip ?_
  refine sx_cond rfl (fun _ => ?_) (fun _ => ?_)
  refine sx_seq ?_
  refine sx_region ?_
  refine sxo_buildSlice rfl rfl rfl rfl rfl rfl rfl rfl rfl rfl rfl rfl rfl (fun _ => ?_)
  refine sxo_pure rfl rfl rfl trivial ?_
  refine sxo_end ?_
  rotate_left
  refine sx_seq ?_
  refine sx_region ?_
  refine sxo_pure rfl rfl rfl trivial ?_
  refine sxo_pure rfl rfl rfl trivial ?_
  refine sxo_end ?_
  refine sx_cond rfl (fun _ => ?_) (fun _ => ?_)
  refine sx_seq ?_
  refine sx_region ?_
  refine sxo_buildSlice rfl rfl rfl rfl rfl rfl rfl rfl rfl rfl rfl rfl rfl (fun _ => ?_)
  refine sxo_pure rfl rfl rfl trivial ?_
  refine sxo_end ?_
  rotate_left
  refine sx_seq ?_
  refine sx_region ?_
  refine sxo_pure rfl rfl rfl trivial ?_
  refine sxo_pure rfl rfl rfl trivial ?_
  refine sxo_end ?_
  refine sx_cond rfl (fun _ => ?_) (fun _ => ?_)
  refine sx_seq ?_
  refine sx_region ?_
  refine sxo_buildSlice rfl rfl rfl rfl rfl rfl rfl rfl rfl rfl rfl rfl rfl (fun _ => ?_)
  refine sxo_pure rfl rfl rfl trivial ?_
  refine sxo_end ?_
  rotate_left
  refine sx_seq ?_
  refine sx_region ?_
  refine sxo_pure rfl rfl rfl trivial ?_
  refine sxo_pure rfl rfl rfl trivial ?_
  refine sxo_end ?_
  refine sx_cond rfl (fun _ => ?_) (fun _ => ?_)
  refine sx_seq ?_
  refine sx_region ?_
  refine sxo_buildSlice rfl rfl rfl rfl rfl rfl rfl rfl rfl rfl rfl rfl rfl (fun _ => ?_)
  refine sxo_pure rfl rfl rfl trivial ?_
  refine sxo_end ?_
  rotate_left
  refine sx_seq ?_
  refine sx_region ?_
  refine sxo_pure rfl rfl rfl trivial ?_
  refine sxo_pure rfl rfl rfl trivial ?_
  refine sxo_end ?_
  refine sx_cond rfl (fun _ => ?_) (fun _ => ?_)
  refine sx_seq ?_
  refine sx_region ?_
  refine sxo_buildSlice rfl rfl rfl rfl rfl rfl rfl rfl rfl rfl rfl rfl rfl (fun _ => ?_)
  refine sxo_pure rfl rfl rfl trivial ?_
  refine sxo_end ?_
  rotate_left
  refine sx_seq ?_
  refine sx_seq ?_
  refine sx_region ?_
  refine sxo_pure rfl rfl rfl trivial ?_
  refine sxo_pure rfl rfl rfl trivial ?_
  refine sxo_end ?_
  refine sx_cond rfl (fun _ => ?_) (fun _ => ?_)
  refine sx_skip ?_
  refine sx_cond rfl (fun _ => ?_) (fun _ => ?_)
  refine sx_seq ?_
  refine sx_region ?_
  refine sxo_buildSlice rfl rfl rfl rfl rfl rfl rfl rfl rfl rfl rfl rfl rfl (fun _ => ?_)
  refine sxo_pure rfl rfl rfl trivial ?_
  refine sxo_end ?_
  rotate_left
  refine sx_skip ?_
  refine sx_inBlock ?_
  refine sx_seq ?_
  refine sx_region ?_
  refine sxo_pure rfl rfl rfl trivial ?_
  refine sxo_end ?_
  rotate_left
  refine sx_region ?_
  refine sxo_pure rfl rfl rfl trivial ?_
  refine sxo_pure rfl rfl rfl trivial ?_
  refine sxo_end ?_
  refine sx_cond rfl (fun _ => ?_) (fun _ => ?_)
  refine sx_seq ?_
  refine sx_region ?_
  refine sxo_buildSlice rfl rfl rfl rfl rfl rfl rfl rfl rfl rfl rfl rfl rfl (fun _ => ?_)
  refine sxo_pure rfl rfl rfl trivial ?_
  refine sxo_end ?_
  rotate_left
  refine sx_skip ?_
  refine sx_inBlock ?_
  refine sx_seq ?_
  refine sx_region ?_
  refine sxo_pure rfl rfl rfl trivial ?_
  refine sxo_end ?_
  rotate_left
  refine sx_region ?_
  refine sxo_pure rfl rfl rfl trivial ?_
  refine sxo_pure rfl rfl rfl trivial ?_
  refine sxo_end ?_
  refine sx_cond rfl (fun _ => ?_) (fun _ => ?_)
  refine sx_seq ?_
  refine sx_region ?_
  refine sxo_buildSlice rfl rfl rfl rfl rfl rfl rfl rfl rfl rfl rfl rfl rfl (fun _ => ?_)
  refine sxo_pure rfl rfl rfl trivial ?_
  refine sxo_end ?_
  rotate_left
  refine sx_seq ?_
  refine sx_region ?_
  refine sxo_pure rfl rfl rfl trivial ?_
  refine sxo_pure rfl rfl rfl trivial ?_
  refine sxo_end ?_
  refine sx_cond rfl (fun _ => ?_) (fun _ => ?_)
  refine sx_seq ?_
  refine sx_region ?_
  refine sxo_buildSlice rfl rfl rfl rfl rfl rfl rfl rfl rfl rfl rfl rfl rfl (fun _ => ?_)
  refine sxo_pure rfl rfl rfl trivial ?_
  refine sxo_end ?_
  rotate_left
  refine sx_seq ?_
  refine sx_region ?_
  refine sxo_pure rfl rfl rfl trivial ?_
  refine sxo_pure rfl rfl rfl trivial ?_
  refine sxo_end ?_
  refine sx_cond rfl (fun _ => ?_) (fun _ => ?_)
  refine sx_seq ?_
  refine sx_region ?_
  refine sxo_buildSlice rfl rfl rfl rfl rfl rfl rfl rfl rfl rfl rfl rfl rfl (fun _ => ?_)
  refine sxo_pure rfl rfl rfl trivial ?_
  refine sxo_end ?_
  rotate_left
  refine sx_seq ?_
  refine sx_region ?_
  refine sxo_pure rfl rfl rfl trivial ?_
  refine sxo_pure rfl rfl rfl trivial ?_
  refine sxo_end ?_
  refine sx_cond rfl (fun _ => ?_) (fun _ => ?_)
  refine sx_seq ?_
  refine sx_region ?_
  refine sxo_buildSlice rfl rfl rfl rfl rfl rfl rfl rfl rfl rfl rfl rfl rfl (fun _ => ?_)
  refine sxo_pure rfl rfl rfl trivial ?_
  refine sxo_end ?_
  rotate_left
  refine sx_seq ?_
  refine sx_region ?_
  refine sxo_pure rfl rfl rfl trivial ?_
  refine sxo_pure rfl rfl rfl trivial ?_
  refine sxo_end ?_
  refine sx_cond rfl (fun _ => ?_) (fun _ => ?_)
  refine sx_seq ?_
  refine sx_region ?_
  refine sxo_buildSlice rfl rfl rfl rfl rfl rfl rfl rfl rfl rfl rfl rfl rfl (fun _ => ?_)
  refine sxo_pure rfl rfl rfl trivial ?_
  refine sxo_end ?_
  rotate_left
  refine sx_seq ?_
  refine sx_seq ?_
  refine sx_region ?_
  refine sxo_pure rfl rfl rfl trivial ?_
  refine sxo_pure rfl rfl rfl trivial ?_
  refine sxo_end ?_
  refine sx_cond rfl (fun _ => ?_) (fun _ => ?_)
  refine sx_skip ?_
  refine sx_cond rfl (fun _ => ?_) (fun _ => ?_)
  refine sx_seq ?_
  refine sx_region ?_
  refine sxo_buildSlice rfl rfl rfl rfl rfl rfl rfl rfl rfl rfl rfl rfl rfl (fun _ => ?_)
  refine sxo_pure rfl rfl rfl trivial ?_
  refine sxo_end ?_
  rotate_left
  refine sx_skip ?_
  refine sx_inBlock ?_
  refine sx_seq ?_
  refine sx_region ?_
  refine sxo_pure rfl rfl rfl trivial ?_
  refine sxo_end ?_
  rotate_left
  refine sx_region ?_
  refine sxo_pure rfl rfl rfl trivial ?_
  refine sxo_pure rfl rfl rfl trivial ?_
  refine sxo_end ?_
  refine sx_cond rfl (fun _ => ?_) (fun _ => ?_)
  refine sx_seq ?_
  refine sx_region ?_
  refine sxo_buildSlice rfl rfl rfl rfl rfl rfl rfl rfl rfl rfl rfl rfl rfl (fun _ => ?_)
  refine sxo_pure rfl rfl rfl trivial ?_
  refine sxo_end ?_
  rotate_left
  refine sx_skip ?_
  refine sx_inBlock ?_
  refine sx_seq ?_
  refine sx_region ?_
  refine sxo_pure rfl rfl rfl trivial ?_
  refine sxo_end ?_
  rotate_left
  refine sx_region ?_
  refine sxo_pure rfl rfl rfl trivial ?_
  refine sxo_pure rfl rfl rfl trivial ?_
  refine sxo_end ?_
  refine sx_cond rfl (fun _ => ?_) (fun _ => ?_)
  refine sx_seq ?_
  refine sx_region ?_
  refine sxo_buildSlice rfl rfl rfl rfl rfl rfl rfl rfl rfl rfl rfl rfl rfl (fun _ => ?_)
  refine sxo_pure rfl rfl rfl trivial ?_
  refine sxo_end ?_
  rotate_left
  refine sx_seq ?_
  refine sx_seq ?_
  refine sx_region ?_
  refine sxo_pure rfl rfl rfl trivial ?_
  refine sxo_pure rfl rfl rfl trivial ?_
  refine sxo_end ?_
  refine sx_cond rfl (fun _ => ?_) (fun _ => ?_)
  refine sx_skip ?_
  refine sx_cond rfl (fun _ => ?_) (fun _ => ?_)
  refine sx_seq ?_
  refine sx_region ?_
  refine sxo_buildSlice rfl rfl rfl rfl rfl rfl rfl rfl rfl rfl rfl rfl rfl (fun _ => ?_)
  refine sxo_pure rfl rfl rfl trivial ?_
  refine sxo_end ?_
  rotate_left
  refine sx_seq ?_
  refine sx_region ?_
  refine sxo_pure rfl rfl rfl trivial ?_
  refine sxo_pure rfl rfl rfl trivial ?_
  refine sxo_end ?_
  refine sx_cond rfl (fun _ => ?_) (fun _ => ?_)
  refine sx_seq ?_
  refine sx_region ?_
  refine sxo_buildSlice rfl rfl rfl rfl rfl rfl rfl rfl rfl rfl rfl rfl rfl (fun _ => ?_)
  refine sxo_pure rfl rfl rfl trivial ?_
  refine sxo_end ?_
  rotate_left
  refine sx_seq ?_
  refine sx_region ?_
  refine sxo_pure rfl rfl rfl trivial ?_
  refine sxo_pure rfl rfl rfl trivial ?_
  refine sxo_end ?_
  refine sx_cond rfl (fun _ => ?_) (fun _ => ?_)
  refine sx_seq ?_
  refine sx_region ?_
  refine sxo_buildSlice rfl rfl rfl rfl rfl rfl rfl rfl rfl rfl rfl rfl rfl (fun _ => ?_)
  refine sxo_pure rfl rfl rfl trivial ?_
  refine sxo_end ?_
  rotate_left
  refine sx_seq ?_
  refine sx_region ?_
  refine sxo_pure rfl rfl rfl trivial ?_
  refine sxo_pure rfl rfl rfl trivial ?_
  refine sxo_end ?_
  refine sx_cond rfl (fun _ => ?_) (fun _ => ?_)
  refine sx_seq ?_
  refine sx_region ?_
  refine sxo_buildSlice rfl rfl rfl rfl rfl rfl rfl rfl rfl rfl rfl rfl rfl (fun _ => ?_)
  refine sxo_pure rfl rfl rfl trivial ?_
  refine sxo_end ?_
  rotate_left
  refine sx_seq ?_
  refine sx_region ?_
  refine sxo_pure rfl rfl rfl trivial ?_
  refine sxo_pure rfl rfl rfl trivial ?_
  refine sxo_end ?_
  refine sx_cond rfl (fun _ => ?_) (fun _ => ?_)
  refine sx_seq ?_
  refine sx_region ?_
  refine sxo_buildSlice rfl rfl rfl rfl rfl rfl rfl rfl rfl rfl rfl rfl rfl (fun _ => ?_)
  refine sxo_pure rfl rfl rfl trivial ?_
  refine sxo_end ?_
  rotate_left
  refine sx_seq ?_
  refine sx_seq ?_
  refine sx_region ?_
  refine sxo_pure rfl rfl rfl trivial ?_
  refine sxo_pure rfl rfl rfl trivial ?_
  refine sxo_end ?_
  refine sx_cond rfl (fun _ => ?_) (fun _ => ?_)
  refine sx_skip ?_
  refine sx_cond rfl (fun _ => ?_) (fun _ => ?_)
  refine sx_seq ?_
  refine sx_region ?_
  refine sxo_buildSlice rfl rfl rfl rfl rfl rfl rfl rfl rfl rfl rfl rfl rfl (fun _ => ?_)
  refine sxo_pure rfl rfl rfl trivial ?_
  refine sxo_end ?_
  rotate_left
  refine sx_skip ?_
  refine sx_inBlock ?_
  refine sx_seq ?_
  refine sx_region ?_
  refine sxo_pure rfl rfl rfl trivial ?_
  refine sxo_end ?_
  rotate_left
  refine sx_region ?_
  refine sxo_pure rfl rfl rfl trivial ?_
  refine sxo_pure rfl rfl rfl trivial ?_
  refine sxo_end ?_
  refine sx_cond rfl (fun _ => ?_) (fun _ => ?_)
  refine sx_seq ?_
  refine sx_region ?_
  refine sxo_buildSlice rfl rfl rfl rfl rfl rfl rfl rfl rfl rfl rfl rfl rfl (fun _ => ?_)
  refine sxo_pure rfl rfl rfl trivial ?_
  refine sxo_end ?_
  rotate_left
  refine sx_skip ?_
  refine sx_inBlock ?_
  refine sx_seq ?_
  refine sx_region ?_
  refine sxo_pure rfl rfl rfl trivial ?_
  refine sxo_end ?_
  rotate_left
  refine sx_seq ?_
  refine sx_region ?_
  refine sxo_pure rfl rfl rfl trivial ?_
  refine sxo_pure rfl rfl rfl trivial ?_
  refine sxo_end ?_
  refine sx_cond rfl (fun _ => ?_) (fun _ => ?_)
  refine sx_skip ?_
  refine sx_cond rfl (fun _ => ?_) (fun _ => ?_)
  refine sx_seq ?_
  refine sx_region ?_
  refine sxo_buildSlice rfl rfl rfl rfl rfl rfl rfl rfl rfl rfl rfl rfl rfl (fun _ => ?_)
  refine sxo_pure rfl rfl rfl trivial ?_
  refine sxo_end ?_
  rotate_left
  refine sx_seq ?_
  refine sx_region ?_
  refine sxo_pure rfl rfl rfl trivial ?_
  refine sxo_pure rfl rfl rfl trivial ?_
  refine sxo_end ?_
  refine sx_cond rfl (fun _ => ?_) (fun _ => ?_)
  refine sx_seq ?_
  refine sx_region ?_
  refine sxo_buildSlice rfl rfl rfl rfl rfl rfl rfl rfl rfl rfl rfl rfl rfl (fun _ => ?_)
  refine sxo_pure rfl rfl rfl trivial ?_
  refine sxo_end ?_
  rotate_left
  refine sx_seq ?_
  refine sx_region ?_
  refine sxo_pure rfl rfl rfl trivial ?_
  refine sxo_pure rfl rfl rfl trivial ?_
  refine sxo_end ?_
  refine sx_cond rfl (fun _ => ?_) (fun _ => ?_)
  refine sx_seq ?_
  refine sx_region ?_
  refine sxo_buildSlice rfl rfl rfl rfl rfl rfl rfl rfl rfl rfl rfl rfl rfl (fun _ => ?_)
  refine sxo_pure rfl rfl rfl trivial ?_
  refine sxo_end ?_
  rotate_left
  refine sx_seq ?_
  refine sx_region ?_
  refine sxo_pure rfl rfl rfl trivial ?_
  refine sxo_pure rfl rfl rfl trivial ?_
  refine sxo_end ?_
  refine sx_cond rfl (fun _ => ?_) (fun _ => ?_)
  refine sx_seq ?_
  refine sx_region ?_
  refine sxo_buildSlice rfl rfl rfl rfl rfl rfl rfl rfl rfl rfl rfl rfl rfl (fun _ => ?_)
  refine sxo_pure rfl rfl rfl trivial ?_
  refine sxo_end ?_
  rotate_left
  refine sx_seq ?_
  refine sx_region ?_
  refine sxo_pure rfl rfl rfl trivial ?_
  refine sxo_pure rfl rfl rfl trivial ?_
  refine sxo_end ?_
  refine sx_cond rfl (fun _ => ?_) (fun _ => ?_)
  refine sx_seq ?_
  refine sx_region ?_
  refine sxo_buildSlice rfl rfl rfl rfl rfl rfl rfl rfl rfl rfl rfl rfl rfl (fun _ => ?_)
  refine sxo_pure rfl rfl rfl trivial ?_
  refine sxo_end ?_
  rotate_left
  refine sx_seq ?_
  refine sx_seq ?_
  refine sx_region ?_
  refine sxo_pure rfl rfl rfl trivial ?_
  refine sxo_pure rfl rfl rfl trivial ?_
  refine sxo_end ?_
  refine sx_cond rfl (fun _ => ?_) (fun _ => ?_)
  refine sx_skip ?_
  refine sx_cond rfl (fun _ => ?_) (fun _ => ?_)
  refine sx_seq ?_
  refine sx_region ?_
  refine sxo_buildSlice rfl rfl rfl rfl rfl rfl rfl rfl rfl rfl rfl rfl rfl (fun _ => ?_)
  refine sxo_pure rfl rfl rfl trivial ?_
  refine sxo_end ?_
  rotate_left
  refine sx_skip ?_
  refine sx_inBlock ?_
  refine sx_seq ?_
  refine sx_region ?_
  refine sxo_pure rfl rfl rfl trivial ?_
  refine sxo_end ?_
  rotate_left
  refine sx_region ?_
  refine sxo_pure rfl rfl rfl trivial ?_
  refine sxo_pure rfl rfl rfl trivial ?_
  refine sxo_end ?_
  refine sx_cond rfl (fun _ => ?_) (fun _ => ?_)
  refine sx_seq ?_
  refine sx_region ?_
  refine sxo_buildSlice rfl rfl rfl rfl rfl rfl rfl rfl rfl rfl rfl rfl rfl (fun _ => ?_)
  refine sxo_pure rfl rfl rfl trivial ?_
  refine sxo_end ?_
  rotate_left
  refine sx_skip ?_
  refine sx_inBlock ?_
  refine sx_seq ?_
  refine sx_region ?_
  refine sxo_pure rfl rfl rfl trivial ?_
  refine sxo_end ?_
  rotate_left
  refine sx_region ?_
  refine sxo_pure rfl rfl rfl trivial ?_
  refine sxo_pure rfl rfl rfl trivial ?_
  refine sxo_end ?_
  refine sx_cond rfl (fun _ => ?_) (fun _ => ?_)
  refine sx_seq ?_
  refine sx_region ?_
  refine sxo_buildSlice rfl rfl rfl rfl rfl rfl rfl rfl rfl rfl rfl rfl rfl (fun _ => ?_)
  refine sxo_pure rfl rfl rfl trivial ?_
  refine sxo_end ?_
  rotate_left
  refine sx_seq ?_
  refine sx_region ?_
  refine sxo_pure rfl rfl rfl trivial ?_
  refine sxo_pure rfl rfl rfl trivial ?_
  refine sxo_end ?_
  refine sx_cond rfl (fun _ => ?_) (fun _ => ?_)
  refine sx_seq ?_
  refine sx_region ?_
  refine sxo_buildSlice rfl rfl rfl rfl rfl rfl rfl rfl rfl rfl rfl rfl rfl (fun _ => ?_)
  refine sxo_pure rfl rfl rfl trivial ?_
  refine sxo_end ?_
  rotate_left
  refine sx_seq ?_
  refine sx_region ?_
  refine sxo_pure rfl rfl rfl trivial ?_
  refine sxo_pure rfl rfl rfl trivial ?_
  refine sxo_end ?_
  refine sx_cond rfl (fun _ => ?_) (fun _ => ?_)
  refine sx_seq ?_
  refine sx_region ?_
  refine sxo_buildSlice rfl rfl rfl rfl rfl rfl rfl rfl rfl rfl rfl rfl rfl (fun _ => ?_)
  refine sxo_pure rfl rfl rfl trivial ?_
  refine sxo_end ?_
  rotate_left
  refine sx_seq ?_
  refine sx_region ?_
  refine sxo_pure rfl rfl rfl trivial ?_
  refine sxo_pure rfl rfl rfl trivial ?_
  refine sxo_end ?_
  refine sx_cond rfl (fun _ => ?_) (fun _ => ?_)
  refine sx_seq ?_
  refine sx_region ?_
  refine sxo_buildSlice rfl rfl rfl rfl rfl rfl rfl rfl rfl rfl rfl rfl rfl (fun _ => ?_)
  refine sxo_pure rfl rfl rfl trivial ?_
  refine sxo_end ?_
  rotate_left
  refine sx_seq ?_
  refine sx_region ?_
  refine sxo_pure rfl rfl rfl trivial ?_
  refine sxo_pure rfl rfl rfl trivial ?_
  refine sxo_end ?_
  refine sx_cond rfl (fun _ => ?_) (fun _ => ?_)
  refine sx_seq ?_
  refine sx_region ?_
  refine sxo_buildSlice rfl rfl rfl rfl rfl rfl rfl rfl rfl rfl rfl rfl rfl (fun _ => ?_)
  refine sxo_pure rfl rfl rfl trivial ?_
  refine sxo_end ?_
  rotate_left
  refine sx_seq ?_
  refine sx_seq ?_
  refine sx_region ?_
  refine sxo_pure rfl rfl rfl trivial ?_
  refine sxo_pure rfl rfl rfl trivial ?_
  refine sxo_end ?_
  refine sx_cond rfl (fun _ => ?_) (fun _ => ?_)
  refine sx_skip ?_
  refine sx_cond rfl (fun _ => ?_) (fun _ => ?_)
  refine sx_seq ?_
  refine sx_region ?_
  refine sxo_buildSlice rfl rfl rfl rfl rfl rfl rfl rfl rfl rfl rfl rfl rfl (fun _ => ?_)
  refine sxo_pure rfl rfl rfl trivial ?_
  refine sxo_end ?_
  rotate_left
  refine sx_skip ?_
  refine sx_inBlock ?_
  refine sx_seq ?_
  refine sx_region ?_
  refine sxo_pure rfl rfl rfl trivial ?_
  refine sxo_end ?_
  rotate_left
  refine sx_region ?_
  refine sxo_pure rfl rfl rfl trivial ?_
  refine sxo_pure rfl rfl rfl trivial ?_
  refine sxo_end ?_
  refine sx_cond rfl (fun _ => ?_) (fun _ => ?_)
  refine sx_seq ?_
  refine sx_region ?_
  refine sxo_buildSlice rfl rfl rfl rfl rfl rfl rfl rfl rfl rfl rfl rfl rfl (fun _ => ?_)
  refine sxo_pure rfl rfl rfl trivial ?_
  refine sxo_end ?_
  rotate_left
  refine sx_skip ?_
  refine sx_inBlock ?_
  refine sx_seq ?_
  refine sx_region ?_
  refine sxo_pure rfl rfl rfl trivial ?_
  refine sxo_end ?_
  rotate_left
  all_goals first
    | refine sx_blkI .head rfl rfl ?_
    | (refine sx_nilVec encI 3 1 ?_; refine sx_recast (rdE ⟨none, 0, 0⟩ 3 1 encI []) .head (fun h hb => VecAt.rd hb) ?_)
  all_goals (refine sx_retL hret hro hk (.tmp rfl .nil) ⟨_, _, _, _, ?_, rfl, rfl⟩ (by repeat (first | exact .nil | (apply Take.cons; focus (first | exact .head | exact .tail .head | exact .tail (.tail .head) | exact .tail (.tail (.tail .head)) | exact .tail (.tail (.tail (.tail .head))) | exact .tail (.tail (.tail (.tail (.tail .head)))) | exact .tail (.tail (.tail (.tail (.tail (.tail .head))))) | exact .tail (.tail (.tail (.tail (.tail (.tail (.tail .head)))))) | exact .tail (.tail (.tail (.tail (.tail (.tail (.tail (.tail .head))))))) | exact .tail (.tail (.tail (.tail (.tail (.tail (.tail (.tail (.tail .head)))))))) | exact .tail (.tail (.tail (.tail (.tail (.tail (.tail (.tail (.tail (.tail .head))))))))) | exact .tail (.tail (.tail (.tail (.tail (.tail (.tail (.tail (.tail (.tail (.tail .head)))))))))) | exact .tail (.tail (.tail (.tail (.tail (.tail (.tail (.tail (.tail (.tail (.tail (.tail .head))))))))))) | exact .tail (.tail (.tail (.tail (.tail (.tail (.tail (.tail (.tail (.tail (.tail (.tail (.tail .head)))))))))))))))); exact Nat.le_of_ble_eq_true rfl)
theorem bare_ok (K : Hp) (m : Msg) (item : Int) : TR Tryz.prog K 88 [evMsg m, .o (.int .i64 item)] [] fun v r => (∃ b : Bool, v = .s (.o (.bool b))) ∧ r = [] := by
  refine tr_intro Tryz.func88 rfl rfl rfl fun cx hro hk hret => ?_
  refine sx_seq ?_
  refine sx_region ?_
  refine sxo_box rfl rfl rfl rfl rfl rfl (fun _ => ?_)
  refine sxo_pure rfl rfl rfl trivial ?_
  refine sxo_end ?_
  refine sx_seq ?_
  refine sx_seq ?_
  refine sx_region ?_
  refine sxo_pure rfl rfl rfl trivial ?_
  refine sxo_end ?_
  refine sx_block ?_
  refine sx_seq ?_
  refine sx_region ?_
  refine sxo_pure rfl rfl rfl trivial ?_
  refine sxo_pure rfl rfl rfl trivial ?_
  refine sxo_end ?_
  refine sx_cond rfl (fun _ => ?_) (fun _ => ?_)
  refine sx_seq ?_
  refine sx_region ?_
  refine sxo_pure rfl rfl rfl trivial ?_
  refine sxo_end ?_
  rotate_left
  refine sx_seq ?_
  refine sx_region ?_
  refine sxo_pure rfl rfl rfl trivial ?_
  refine sxo_pure rfl rfl rfl trivial ?_
  refine sxo_end ?_
  refine sx_cond rfl (fun _ => ?_) (fun _ => ?_)
  refine sx_seq ?_
  refine sx_region ?_
  refine sxo_pure rfl rfl rfl trivial ?_
  refine sxo_load rfl rfl rfl (by exact .head) rfl rfl rfl rfl ?_
  refine sxo_buildA0 rfl rfl rfl rfl rfl rfl rfl ?_
  rotate_left
  refine sx_seq ?_
  refine sx_region ?_
  refine sxo_pure rfl rfl rfl trivial ?_
  refine sxo_pure rfl rfl rfl trivial ?_
  refine sxo_end ?_
  refine sx_cond rfl (fun _ => ?_) (fun _ => ?_)
  refine sx_seq ?_
  refine sx_region ?_
  refine sxo_pure rfl rfl rfl trivial ?_
  refine sxo_load rfl rfl rfl (by exact .head) rfl rfl rfl rfl ?_
  refine sxo_pure rfl rfl rfl trivial ?_
  refine sxo_pure rfl rfl rfl trivial ?_
  refine sxo_end ?_
  rotate_left
  refine sx_seq ?_
  refine sx_region ?_
  refine sxo_pure rfl rfl rfl trivial ?_
  refine sxo_pure rfl rfl rfl trivial ?_
  refine sxo_end ?_
  refine sx_cond rfl (fun _ => ?_) (fun _ => ?_)
  refine sx_seq ?_
  refine sx_region ?_
  refine sxo_pure rfl rfl rfl trivial ?_
  refine sxo_load rfl rfl rfl (by exact .head) rfl rfl rfl rfl ?_
  refine sxo_lenV rfl rfl rfl rfl rfl rfl rfl ?_
  refine sxo_pure rfl rfl rfl trivial ?_
  refine sxo_pure rfl rfl rfl trivial ?_
  refine sxo_end ?_
  rotate_left
  refine sx_seq ?_
  refine sx_region ?_
  refine sxo_pure rfl rfl rfl trivial ?_
  refine sxo_pure rfl rfl rfl trivial ?_
  refine sxo_end ?_
  refine sx_cond rfl (fun _ => ?_) (fun _ => ?_)
  refine sx_seq ?_
  refine sx_region ?_
  refine sxo_pure rfl rfl rfl trivial ?_
  refine sxo_load rfl rfl rfl (by exact .head) rfl rfl rfl rfl ?_
  refine sxo_lenV rfl rfl rfl rfl rfl rfl rfl ?_
  refine sxo_pure rfl rfl rfl trivial ?_
  refine sxo_pure rfl rfl rfl trivial ?_
  refine sxo_end ?_
  rotate_left
  refine sx_seq ?_
  refine sx_region ?_
  refine sxo_pure rfl rfl rfl trivial ?_
  refine sxo_pure rfl rfl rfl trivial ?_
  refine sxo_end ?_
  refine sx_cond rfl (fun _ => ?_) (fun _ => ?_)
  refine sx_seq ?_
  refine sx_region ?_
  refine sxo_pure rfl rfl rfl trivial ?_
  refine sxo_load rfl rfl rfl (by exact .head) rfl rfl rfl rfl ?_
  refine sxo_lenV rfl rfl rfl rfl rfl rfl rfl ?_
  refine sxo_pure rfl rfl rfl trivial ?_
  refine sxo_pure rfl rfl rfl trivial ?_
  refine sxo_end ?_
  rotate_left
  refine sx_seq ?_
  refine sx_region ?_
  refine sxo_pure rfl rfl rfl trivial ?_
  refine sxo_pure rfl rfl rfl trivial ?_
  refine sxo_end ?_
  refine sx_cond rfl (fun _ => ?_) (fun _ => ?_)
  refine sx_seq ?_
  refine sx_region ?_
  refine sxo_pure rfl rfl rfl trivial ?_
  refine sxo_load rfl rfl rfl (by exact .head) rfl rfl rfl rfl ?_
  refine sxo_lenV rfl rfl rfl rfl rfl rfl rfl ?_
  refine sxo_pure rfl rfl rfl trivial ?_
  refine sxo_pure rfl rfl rfl trivial ?_
  refine sxo_end ?_
  rotate_left
  refine sx_skip ?_
  refine sx_inBlock ?_
  refine sx_seq ?_
  refine sx_region ?_
  refine sxo_pure rfl rfl rfl trivial ?_
  refine sxo_load rfl rfl rfl (by exact .head) rfl rfl rfl rfl ?_
  refine sxo_pure rfl rfl rfl trivial ?_
  refine sxo_pure rfl rfl rfl trivial ?_
  refine sxo_end ?_
  rotate_left
  · refine sx_retL hret hro hk (.tmp rfl .nil) ⟨⟨_, rfl⟩, rfl⟩ (by exact .nil)
  · refine sxo_eqDig rfl rfl rfl rfl rfl rfl rfl rfl rfl rfl (fun b => ?_)
    refine sxo_pure rfl rfl rfl trivial ?_
    refine sxo_end ?_
    refine sx_retL hret hro hk (.tmp rfl .nil) ⟨⟨_, rfl⟩, rfl⟩ (by exact .nil)
  all_goals (refine sx_retL hret hro hk (.tmp rfl .nil) ⟨⟨_, rfl⟩, rfl⟩ (by repeat (first | exact .nil | (apply Take.cons; focus (first | exact .head | exact .tail .head | exact .tail (.tail .head) | exact .tail (.tail (.tail .head)) | exact .tail (.tail (.tail (.tail .head))) | exact .tail (.tail (.tail (.tail (.tail .head)))) | exact .tail (.tail (.tail (.tail (.tail (.tail .head))))) | exact .tail (.tail (.tail (.tail (.tail (.tail (.tail .head)))))) | exact .tail (.tail (.tail (.tail (.tail (.tail (.tail (.tail .head))))))) | exact .tail (.tail (.tail (.tail (.tail (.tail (.tail (.tail (.tail .head)))))))) | exact .tail (.tail (.tail (.tail (.tail (.tail (.tail (.tail (.tail (.tail .head))))))))) | exact .tail (.tail (.tail (.tail (.tail (.tail (.tail (.tail (.tail (.tail (.tail .head)))))))))) | exact .tail (.tail (.tail (.tail (.tail (.tail (.tail (.tail (.tail (.tail (.tail (.tail .head))))))))))) | exact .tail (.tail (.tail (.tail (.tail (.tail (.tail (.tail (.tail (.tail (.tail (.tail (.tail .head)))))))))))))))))
def oddI (id : Int) : Bool := !(inR id 1 65536)
theorem oddI_ok (K : Hp) (id : Int) : TR Tryz.prog K 175 [ekInt id] [] fun v r => v = .s (.o (.bool (oddI id))) ∧ r = [] := by
  refine tr_intro Tryz.func175 rfl rfl rfl fun cx hro hk hret => ?_
  refine sx_seq ?_
  refine sx_region ?_
  refine sxo_pure rfl rfl rfl trivial ?_
  refine sxo_end ?_
  refine sx_seq ?_
  refine sx_region ?_
  refine sxo_pure rfl rfl rfl trivial ?_
  refine sxo_call0 rfl rfl rfl rfl (by exact .nil) (fun Kc hK hB => withinR_ok Kc id 1 65536) rfl rfl ?_ (hH := by rintro v m ⟨rfl, rfl⟩; (exact hh_nil))
  rintro v m ⟨rfl, rfl⟩
  simp only [List.cons_append, List.nil_append, List.append_nil, resV]
  refine sxo_pure rfl rfl rfl trivial ?_
  refine sxo_pure rfl rfl rfl trivial ?_
  refine sxo_end ?_
  refine sx_retL hret hro hk (.tmp rfl .nil) ⟨rfl, rfl⟩ (by exact .nil)
def oddM (x : Member) : Bool := oddI x.id || !(inR x.inc 0 1073741824) || !(inR x.state 1 3) || !(decide (x.since = 0))
theorem oddM_ok (K : Hp) (b : Nat) (x : Member) : TR Tryz.prog K 177 [evM x, evPtr b] [.blk b 250 [.c (.func (.func 175) #[] #[])]] fun v r => v = .s (.o (.bool (oddM x))) ∧ r = [.blk b 250 [.c (.func (.func 175) #[] #[])]] := by
  refine tr_intro Tryz.func177 rfl rfl rfl fun cx hro hk hret => ?_
  refine sx_seq ?_
  refine sx_region ?_
  refine sxo_box rfl rfl rfl rfl rfl rfl (fun _ => ?_)
  refine sxo_pure rfl rfl rfl trivial ?_
  refine sxo_end ?_
  refine sx_seq ?_
  refine sx_region ?_
  refine sxo_load rfl rfl rfl (by exact .tail .head) rfl rfl rfl rfl ?_
  refine sxo_pure rfl rfl rfl trivial ?_
  refine sxo_load rfl rfl rfl (by exact .head) rfl rfl rfl rfl ?_
  refine sxo_call0 rfl rfl rfl rfl (by exact .nil) (fun Kc hK hB => oddI_ok Kc x.id) rfl rfl ?_ (hH := by rintro v m ⟨rfl, rfl⟩; (exact hh_nil))
  rintro v m ⟨rfl, rfl⟩
  simp only [List.cons_append, List.nil_append, List.append_nil, resV]
  refine sxo_pure rfl rfl rfl trivial ?_
  refine sxo_split (t := 8) rfl (fun h1 => ?_) (fun h1 => ?_)
  · refine sxo_pass rfl rfl rfl ?_
    refine sxo_pass rfl rfl rfl ?_
    refine sxo_pass rfl rfl rfl ?_
    refine sxo_pass rfl rfl rfl ?_
    refine sxo_pure rfl rfl rfl trivial ?_
    refine sxo_pure rfl rfl rfl trivial ?_
    refine sxo_pass rfl rfl rfl ?_
    refine sxo_pass rfl rfl rfl ?_
    refine sxo_pass rfl rfl rfl ?_
    refine sxo_pass rfl rfl rfl ?_
    refine sxo_pure rfl rfl rfl trivial ?_
    refine sxo_pure rfl rfl rfl trivial ?_
    refine sxo_pass rfl rfl rfl ?_
    refine sxo_pass rfl rfl rfl ?_
    refine sxo_pass rfl rfl rfl ?_
    refine sxo_pure rfl rfl rfl trivial ?_
    refine sxo_pure rfl rfl rfl trivial ?_
    refine sxo_end ?_
    refine sx_retL hret hro hk (.tmp rfl .nil) ⟨by simp [oddM, resV, h1], rfl⟩ (by (apply Take.cons; focus exact .tail .head); exact .nil)
  refine sxo_pure rfl rfl rfl trivial ?_
  refine sxo_load rfl rfl rfl (by exact .head) rfl rfl rfl rfl ?_
  refine sxo_call0 rfl rfl rfl rfl (by exact .nil) (fun Kc hK hB => withinR_ok Kc x.inc 0 1073741824) rfl rfl ?_ (hH := by rintro v m ⟨rfl, rfl⟩; (exact hh_nil))
  rintro v m ⟨rfl, rfl⟩
  simp only [List.cons_append, List.nil_append, List.append_nil, resV]
  refine sxo_pure rfl rfl rfl trivial ?_
  refine sxo_pure rfl rfl rfl trivial ?_
  refine sxo_pure rfl rfl rfl trivial ?_
  refine sxo_split (t := 14) rfl (fun h2 => ?_) (fun h2 => ?_)
  · refine sxo_pass rfl rfl rfl ?_
    refine sxo_pass rfl rfl rfl ?_
    refine sxo_pass rfl rfl rfl ?_
    refine sxo_pass rfl rfl rfl ?_
    refine sxo_pure rfl rfl rfl trivial ?_
    refine sxo_pure rfl rfl rfl trivial ?_
    refine sxo_pass rfl rfl rfl ?_
    refine sxo_pass rfl rfl rfl ?_
    refine sxo_pass rfl rfl rfl ?_
    refine sxo_pure rfl rfl rfl trivial ?_
    refine sxo_pure rfl rfl rfl trivial ?_
    refine sxo_end ?_
    refine sx_retL hret hro hk (.tmp rfl .nil) ⟨by simp at h2; simp [oddM, resV, h2], rfl⟩ (by (apply Take.cons; focus exact .tail .head); exact .nil)
  refine sxo_pure rfl rfl rfl trivial ?_
  refine sxo_load rfl rfl rfl (by exact .head) rfl rfl rfl rfl ?_
  refine sxo_call0 rfl rfl rfl rfl (by exact .nil) (fun Kc hK hB => withinR_ok Kc x.state 1 3) rfl rfl ?_ (hH := by rintro v m ⟨rfl, rfl⟩; (exact hh_nil))
  rintro v m ⟨rfl, rfl⟩
  simp only [List.cons_append, List.nil_append, List.append_nil, resV]
  refine sxo_pure rfl rfl rfl trivial ?_
  refine sxo_pure rfl rfl rfl trivial ?_
  refine sxo_pure rfl rfl rfl trivial ?_
  refine sxo_split (t := 20) rfl (fun h3 => ?_) (fun h3 => ?_)
  · refine sxo_pass rfl rfl rfl ?_
    refine sxo_pass rfl rfl rfl ?_
    refine sxo_pass rfl rfl rfl ?_
    refine sxo_pure rfl rfl rfl trivial ?_
    refine sxo_pure rfl rfl rfl trivial ?_
    refine sxo_end ?_
    refine sx_retL hret hro hk (.tmp rfl .nil) ⟨by simp at h3; simp [oddM, resV, h3], rfl⟩ (by (apply Take.cons; focus exact .tail .head); exact .nil)
  refine sxo_pure rfl rfl rfl trivial ?_
  refine sxo_load rfl rfl rfl (by exact .head) rfl rfl rfl rfl ?_
  refine sxo_pure rfl rfl rfl trivial ?_
  refine sxo_pure rfl rfl rfl trivial ?_
  refine sxo_pure rfl rfl rfl trivial ?_
  refine sxo_end ?_
  refine sx_retL hret hro hk (.tmp rfl .nil) ⟨by simp at h2 h3; simp [oddM, resV, h1, h2, h3], rfl⟩ (by (apply Take.cons; focus exact .tail .head); exact .nil)
theorem fits_ok (K : Hp) (m : Msg) (item : Int) (li : List Int) (lm : List Member) (hi : VecRd m.ids 3 1 encI li K) (hm : VecRd m.mems 101 4 encM lm K) (hil : li.length < 4611686018427387904) (hml : lm.length < 4611686018427387904) :
    TR Tryz.prog K 87 [evMsg m, .o (.int .i64 item)] [] fun v r => (∃ b : Bool, v = .s (.o (.bool b))) ∧ r = [] := by
  refine tr_intro Tryz.func87 rfl rfl rfl fun cx hro hk hret => ?_
  refine sx_seq ?_
  refine sx_region ?_
  refine sxo_box rfl rfl rfl rfl rfl rfl (fun _ => ?_)
  refine sxo_pure rfl rfl rfl trivial ?_
  refine sxo_end ?_
  refine sx_seq ?_
  refine sx_region ?_
  refine sxo_alloc rfl rfl rfl rfl rfl rfl (fun _ => ?_)
  refine sxo_store rfl rfl rfl rfl (by exact .head) rfl rfl rfl rfl rfl ?_
  refine sxo_end ?_
  refine sx_seq ?_
  refine sx_region ?_
  refine sxo_pure rfl rfl rfl trivial ?_
  refine sxo_pure rfl rfl rfl trivial ?_
  refine sxo_end ?_
  refine sx_seq ?_
  refine sx_seq ?_
  refine sx_region ?_
  refine sxo_pure rfl rfl rfl trivial ?_
  refine sxo_end ?_
  refine sx_block ?_
  refine sx_seq ?_
  refine sx_region ?_
  refine sxo_pure rfl rfl rfl trivial ?_
  refine sxo_pure rfl rfl rfl trivial ?_
  refine sxo_end ?_
  refine sx_cond rfl (fun _ => ?_) (fun _ => ?_)
  refine sx_seq ?_
  refine sx_region ?_
  refine sxo_pure rfl rfl rfl trivial ?_
  refine sxo_load rfl rfl rfl (by exact .tail .head) rfl rfl rfl rfl ?_
  rotate_left
  refine sx_seq ?_
  refine sx_region ?_
  refine sxo_pure rfl rfl rfl trivial ?_
  refine sxo_pure rfl rfl rfl trivial ?_
  refine sxo_end ?_
  refine sx_cond rfl (fun _ => ?_) (fun _ => ?_)
  refine sx_seq ?_
  refine sx_region ?_
  refine sxo_pure rfl rfl rfl trivial ?_
  refine sxo_load rfl rfl rfl (by exact .tail .head) rfl rfl rfl rfl ?_
  refine sxo_lenV rfl rfl rfl rfl rfl rfl rfl ?_
  refine sxo_pure rfl rfl rfl trivial ?_
  refine sxo_pure rfl rfl rfl trivial ?_
  rotate_left
  refine sx_seq ?_
  refine sx_region ?_
  refine sxo_pure rfl rfl rfl trivial ?_
  refine sxo_pure rfl rfl rfl trivial ?_
  refine sxo_end ?_
  refine sx_cond rfl (fun _ => ?_) (fun _ => ?_)
  refine sx_seq ?_
  refine sx_drawN 9 (by kernel_rfl) [0, 1, 2, 3, 4, 5, 6, 7] [(1, 5), (2, 5)] (by kernel_rfl) ?_
  refine sxo_pure rfl rfl rfl trivial ?_
  refine sxo_loadF rfl rfl rfl (by exact .tail .head) rfl rfl rfl ?_
  refine sxo_lenVF rfl rfl rfl rfl rfl rfl ?_
  refine sxo_pure rfl rfl rfl trivial ?_
  refine sxo_load rfl rfl rfl (by exact .tail .head) rfl rfl rfl rfl ?_
  rotate_left
  refine sx_seq ?_
  refine sx_region ?_
  refine sxo_pure rfl rfl rfl trivial ?_
  refine sxo_pure rfl rfl rfl trivial ?_
  refine sxo_end ?_
  refine sx_cond rfl (fun _ => ?_) (fun _ => ?_)
  refine sx_seq ?_
  refine sx_region ?_
  refine sxo_pure rfl rfl rfl trivial ?_
  refine sxo_load rfl rfl rfl (by exact .tail .head) rfl rfl rfl rfl ?_
  refine sxo_lenV rfl rfl rfl rfl rfl rfl rfl ?_
  refine sxo_pure rfl rfl rfl trivial ?_
  refine sxo_pure rfl rfl rfl trivial ?_
  refine sxo_end ?_
  rotate_left
  refine sx_seq ?_
  refine sx_region ?_
  refine sxo_pure rfl rfl rfl trivial ?_
  refine sxo_pure rfl rfl rfl trivial ?_
  refine sxo_end ?_
  refine sx_cond rfl (fun _ => ?_) (fun _ => ?_)
  refine sx_seq ?_
  refine sx_region ?_
  refine sxo_pure rfl rfl rfl trivial ?_
  refine sxo_load rfl rfl rfl (by exact .tail .head) rfl rfl rfl rfl ?_
  refine sxo_lenV rfl rfl rfl rfl rfl rfl rfl ?_
  rotate_left
  refine sx_skip ?_
  refine sx_inBlock ?_
  refine sx_seq ?_
  refine sx_region ?_
  refine sxo_pure rfl rfl rfl trivial ?_
  refine sxo_end ?_
  rotate_left
  · skip
    refine sxo_call0 rfl rfl rfl rfl (by exact .nil) (fun Kc hK hB => withinR_ok Kc m.piece 0 1023) rfl rfl ?_ (hH := by rintro v m ⟨rfl, rfl⟩; (exact hh_nil))
    rintro v m ⟨rfl, rfl⟩
    simp only [List.cons_append, List.nil_append, List.append_nil, resV]
    refine sxo_pure rfl rfl rfl trivial ?_
    refine sxo_end ?_
    refine sx_retL hret hro hk (.tmp rfl .nil) ⟨⟨_, rfl⟩, rfl⟩ (by exact .nil)
  · refine sxo_split (t := 20) rfl (fun h1 => ?_) (fun h1 => ?_)
    · refine sxo_pure rfl rfl rfl trivial ?_
      refine sxo_load rfl rfl rfl (by exact .tail .head) rfl rfl rfl rfl ?_
      refine sxo_load rfl rfl rfl (by exact .head) rfl rfl rfl rfl ?_
      refine sxo_call0 rfl rfl rfl rfl .all (fun Kc hK hB =>  CtsInt_ok Kc _ m.ids.p m.ids.n m.ids.c li _ oddI (fun Kd hd => Reads.beside (hi.mono (hK.trans hd))) hil (Looks.of0 oddI_ok)) rfl rfl ?_ (hH := by rintro v m ⟨rfl, rfl⟩; (exact hh_nil))
      rintro v m ⟨rfl, rfl⟩
      simp only [List.cons_append, List.nil_append, List.append_nil, resV]
      refine sxo_pure rfl rfl rfl trivial ?_
      refine sxo_pure rfl rfl rfl trivial ?_
      refine sxo_pure rfl rfl rfl trivial ?_
      refine sxo_end ?_
      refine sx_retL hret hro hk (.tmp rfl .nil) ⟨⟨_, rfl⟩, rfl⟩ (by exact .nil)
    · refine sxo_pass rfl rfl rfl ?_
      refine sxo_pass rfl rfl rfl ?_
      refine sxo_pass rfl rfl rfl ?_
      refine sxo_pass rfl rfl rfl ?_
      refine sxo_pass rfl rfl rfl ?_
      refine sxo_pure rfl rfl rfl trivial ?_
      refine sxo_pure rfl rfl rfl trivial ?_
      refine sxo_end ?_
      refine sx_retL hret hro hk (.tmp rfl .nil) ⟨⟨_, rfl⟩, rfl⟩ (by exact .nil)
  · skip
    refine sxo_call0 rfl rfl rfl rfl (by exact .nil) (fun Kc hK hB => most_ok Kc m.kind) rfl rfl ?_ (hH := by rintro v m ⟨⟨n, rfl⟩, rfl⟩; (refine hh_chk trivial ?_; refine hh_chk ⟨_, _, _, (by exact .tail .head), (by rfl)⟩ ?_; exact hh_nil))
    rintro v m ⟨⟨n, rfl⟩, rfl⟩
    simp only [List.cons_append, List.nil_append, List.append_nil, resV]
    skip
    refine sxo_call0 rfl rfl rfl rfl (by exact .nil) (fun Kc hK hB => withinR_ok Kc m.bytes.n 1 n) rfl rfl ?_ (hH := by rintro v m ⟨rfl, rfl⟩; (refine hh_free rfl ?_; refine hh_free rfl ?_; exact hh_nil))
    rintro v m ⟨rfl, rfl⟩
    simp only [List.cons_append, List.nil_append, List.append_nil, resV]
    refine sxo_pure rfl rfl rfl trivial ?_
    refine sxo_end ?_
    refine sx_retL hret hro hk (.tmp rfl .nil) ⟨⟨_, rfl⟩, rfl⟩ (by exact .nil)
  · skip
    refine sx_retL hret hro hk (.tmp rfl .nil) ⟨⟨_, rfl⟩, rfl⟩ (by exact .nil)
  · skip
    refine sxo_call0 rfl rfl rfl rfl (by exact .nil) (fun Kc hK hB => withinR_ok Kc m.mems.n 1 65) rfl rfl ?_ (hH := by rintro v m ⟨rfl, rfl⟩; (exact hh_nil))
    rintro v m ⟨rfl, rfl⟩
    simp only [List.cons_append, List.nil_append, List.append_nil, resV]
    refine sxo_pure rfl rfl rfl trivial ?_
    refine sxo_split (t := 48) rfl (fun h1 => ?_) (fun h1 => ?_)
    · refine sxo_pure rfl rfl rfl trivial ?_
      refine sxo_load rfl rfl rfl (by exact .tail .head) rfl rfl rfl rfl ?_
      refine sxo_pure rfl rfl rfl trivial ?_
      refine sxo_call0 rfl rfl rfl rfl .all (fun Kc hK hB => CtsMember_ok Kc _ m.mems.p m.mems.n m.mems.c lm _ oddM (fun Kd hd => Reads.beside (hm.mono (hK.trans hd))) hml ⟨fun Kd hd x hx => ?_⟩) rfl rfl ?_
      · exact TRV.frame (by (apply Take.cons; focus exact .head); exact .nil) (fun Ke => (oddM_ok Ke _ x).val rfl)
      rintro v m ⟨rfl, rfl⟩
      simp only [List.append_nil, resV]
      refine sxo_pure rfl rfl rfl trivial ?_
      refine sxo_pure rfl rfl rfl trivial ?_
      refine sxo_pure rfl rfl rfl trivial ?_
      refine sxo_end ?_
      refine sx_retL hret hro hk (.tmp rfl .nil) ⟨⟨_, rfl⟩, rfl⟩ (by exact .nil)
    · refine sxo_pass rfl rfl rfl ?_
      refine sxo_pass rfl rfl rfl ?_
      refine sxo_pass rfl rfl rfl ?_
      refine sxo_pass rfl rfl rfl ?_
      refine sxo_pass rfl rfl rfl ?_
      refine sxo_pure rfl rfl rfl trivial ?_
      refine sxo_pure rfl rfl rfl trivial ?_
      refine sxo_end ?_
      refine sx_retL hret hro hk (.tmp rfl .nil) ⟨⟨_, rfl⟩, rfl⟩ (by exact .nil)
  · skip
    refine sx_retL hret hro hk (.tmp rfl .nil) ⟨⟨_, rfl⟩, rfl⟩ (by exact .nil)
theorem Right_ok (K : Hp) (m : Msg) (li : List Int) (lm : List Member) (hi : VecRd m.ids 3 1 encI li K) (hm : VecRd m.mems 101 4 encM lm K) (hil : li.length < 4611686018427387904) (hml : lm.length < 4611686018427387904) :
    TR Tryz.prog K 37 [evMsg m] [] fun v r => (∃ b : Bool, v = .s (.o (.bool b))) ∧ r = [] := by
  refine tr_intro Tryz.func37 rfl rfl rfl fun cx hro hk hret => ?_
  refine sx_seq ?_
  refine sx_region ?_
  refine sxo_box rfl rfl rfl rfl rfl rfl (fun _ => ?_)
  refine sxo_pure rfl rfl rfl trivial ?_
  refine sxo_end ?_
  refine sx_seq ?_
  refine sx_region ?_
  refine sxo_pure rfl rfl rfl trivial ?_
  refine sxo_load rfl rfl rfl (by exact .head) rfl rfl rfl rfl ?_
  rename_i b1
  refine sxo_call0 rfl rfl rfl rfl (by exact .nil) (fun Kc hK hB => has_ok Kc m.kind) rfl rfl ?_ (hH := by rintro v m ⟨p, n, c, l, hl, rfl, rfl⟩; (exact hh_nil))
  rintro v m ⟨p, n, c, l, hl, rfl, rfl⟩
  simp only [List.cons_append, List.nil_append, List.append_nil, resV]
  refine sxo_pure rfl rfl rfl trivial ?_
  refine sxo_end ?_
  refine sx_seq ?_
  refine sx_seq ?_
  refine sx_region ?_
  refine sxo_pure rfl rfl rfl trivial ?_
  refine sxo_end ?_
  refine sx_block ?_
  refine sx_less (by refine .cons rfl ?_; refine .cons rfl ?_; refine .cons rfl ?_; exact .nil _) (by (apply Take.cons; focus exact .head); (apply Take.cons; focus exact .head); exact .nil) (sx_loopI (γ := Int) (fun j => 1 ≤ j ∧ j ≤ 9) (fun j => (9 - j).toNat) (fun j => [(1, .s (evPtr b1)), (3, .s (.o (.slice p n c))), (4, .s (.o (.int .i64 j)))]) (fun _ => [rdE ⟨p, n, c⟩ 3 1 encI l, .blk b1 42 (encMsg m)]) (1) (by omega) ?_)
  rintro j ⟨hj1, hj2⟩ ih
  skip
  refine sx_seq ?_
  refine sx_seq ?_
  refine sx_region ?_
  refine sxo_pure rfl rfl rfl trivial ?_
  refine sxo_pure rfl rfl rfl trivial ?_
  refine sxo_end ?_
  refine sx_cond rfl (fun h => ?_) (fun h => ?_)
  · simp at h
    refine sx_skip ?_
    refine sx_seq ?_
    refine sx_block ?_
    refine sx_seq ?_
    refine sx_region ?_
    refine sxo_pure rfl rfl rfl trivial ?_
    refine sxo_pure rfl rfl rfl trivial ?_
    refine sxo_call0 rfl rfl rfl rfl .all (fun Kc hK hB =>  Contains_ok Kc _ p n c l j (fun Kd hd => Reads.of .head) (by omega)) rfl rfl ?_ (hH := by rintro v m ⟨rfl, rfl⟩; (exact hh_nil))
    rintro v m ⟨rfl, rfl⟩
    simp only [List.cons_append, List.nil_append, List.append_nil, resV]
    refine sxo_pure rfl rfl rfl trivial ?_
    refine sxo_end ?_
    refine sx_seq ?_
    refine sx_region ?_
    refine sxo_pure rfl rfl rfl trivial ?_
    refine sxo_pure rfl rfl rfl trivial ?_
    refine sxo_split (t := 17) rfl (fun h1 => ?_) (fun h1 => ?_)
    · refine sxo_load rfl rfl rfl (by exact .tail .head) rfl rfl rfl rfl ?_
      refine sxo_pure rfl rfl rfl trivial ?_
      refine sxo_call0 rfl rfl rfl rfl (by exact .nil) (fun Kc hK hB => fits_ok Kc m j li lm (hi.mono hK) (hm.mono hK) hil hml) rfl rfl ?_ (hH := by rintro v m ⟨⟨b, rfl⟩, rfl⟩; (exact hh_nil))
      rintro v m ⟨⟨b, rfl⟩, rfl⟩
      simp only [List.cons_append, List.nil_append, List.append_nil, resV]
      refine sxo_pure rfl rfl rfl trivial ?_
      refine sxo_pure rfl rfl rfl trivial ?_
      refine sxo_pure rfl rfl rfl trivial ?_
      refine sxo_split (t := 23) rfl (fun h2 => ?_) (fun h2 => ?_)
      · refine sxo_pass rfl rfl rfl ?_
        refine sxo_pass rfl rfl rfl ?_
        refine sxo_pass rfl rfl rfl ?_
        refine sxo_pass rfl rfl rfl ?_
        refine sxo_pass rfl rfl rfl ?_
        refine sxo_pass rfl rfl rfl ?_
        refine sxo_pass rfl rfl rfl ?_
        refine sxo_pass rfl rfl rfl ?_
        refine sxo_pure rfl rfl rfl trivial ?_
        refine sxo_end ?_
        refine sx_condT rfl ?_
        refine sx_seq ?_
        refine sx_region ?_
        refine sxo_pure rfl rfl rfl trivial ?_
        refine sxo_end ?_
        refine sx_retL hret hro hk (.tmp rfl .nil) ⟨⟨_, rfl⟩, rfl⟩ (by exact .nil)
      refine sxo_pure rfl rfl rfl trivial ?_
      refine sxo_pure rfl rfl rfl trivial ?_
      refine sxo_pure rfl rfl rfl trivial ?_
      refine sxo_split (t := 26) rfl (fun h3 => ?_) (fun h3 => ?_)
      · exfalso; simp at h1 h3; exact h3 h1
      refine sxo_pass rfl rfl rfl ?_
      refine sxo_pass rfl rfl rfl ?_
      refine sxo_pass rfl rfl rfl ?_
      refine sxo_pass rfl rfl rfl ?_
      refine sxo_pure rfl rfl rfl trivial ?_
      refine sxo_pure rfl rfl rfl trivial ?_
      refine sxo_end ?_
      refine sx_condF rfl ?_
      refine sx_skip ?_
      refine sx_inBlock ?_
      refine sx_region ?_
      refine sxo_pure rfl rfl rfl trivial ?_
      refine sxo_pure rfl rfl rfl (by omega) ?_
      refine sxo_pure rfl rfl rfl trivial ?_
      refine sxo_end ?_
      refine sx_less (by refine .cons rfl ?_; refine .cons rfl ?_; refine .cons rfl ?_; exact .nil _) (by (apply Take.cons; focus exact .head); (apply Take.cons; focus exact .head); exact .nil) (ih (j + 1) (by omega) (by omega))
    · refine sxo_pass rfl rfl rfl ?_
      refine sxo_pass rfl rfl rfl ?_
      refine sxo_pass rfl rfl rfl ?_
      refine sxo_pass rfl rfl rfl ?_
      refine sxo_pure rfl rfl rfl trivial ?_
      refine sxo_pure rfl rfl rfl trivial ?_
      refine sxo_pure rfl rfl rfl trivial ?_
      refine sxo_pure rfl rfl rfl trivial ?_
      refine sxo_pure rfl rfl rfl trivial ?_
      refine sxo_split (t := 26) rfl (fun h3 => ?_) (fun h3 => ?_)
      · refine sxo_load rfl rfl rfl (by exact .tail .head) rfl rfl rfl rfl ?_
        refine sxo_pure rfl rfl rfl trivial ?_
        refine sxo_call0 rfl rfl rfl rfl (by exact .nil) (fun Kc hK hB => bare_ok Kc m j) rfl rfl ?_ (hH := by rintro v m ⟨⟨b, rfl⟩, rfl⟩; (exact hh_nil))
        rintro v m ⟨⟨b, rfl⟩, rfl⟩
        simp only [List.cons_append, List.nil_append, List.append_nil, resV]
        refine sxo_pure rfl rfl rfl trivial ?_
        refine sxo_pure rfl rfl rfl trivial ?_
        refine sxo_pure rfl rfl rfl trivial ?_
        refine sxo_end ?_
        refine sx_cond rfl (fun h4 => ?_) (fun h4 => ?_)
        · refine sx_seq ?_
          refine sx_region ?_
          refine sxo_pure rfl rfl rfl trivial ?_
          refine sxo_end ?_
          refine sx_retL hret hro hk (.tmp rfl .nil) ⟨⟨_, rfl⟩, rfl⟩ (by exact .nil)
        refine sx_skip ?_
        refine sx_inBlock ?_
        refine sx_region ?_
        refine sxo_pure rfl rfl rfl trivial ?_
        refine sxo_pure rfl rfl rfl (by omega) ?_
        refine sxo_pure rfl rfl rfl trivial ?_
        refine sxo_end ?_
        refine sx_less (by refine .cons rfl ?_; refine .cons rfl ?_; refine .cons rfl ?_; exact .nil _) (by (apply Take.cons; focus exact .head); (apply Take.cons; focus exact .head); exact .nil) (ih (j + 1) (by omega) (by omega))
      exfalso; simp at h1 h3; exact h1 h3
  · refine sx_exit rfl ?_
    refine sx_seq ?_
    refine sx_region ?_
    refine sxo_pure rfl rfl rfl trivial ?_
    refine sxo_end ?_
    refine sx_retL hret hro hk (.tmp rfl .nil) ⟨⟨_, rfl⟩, rfl⟩ (by exact .nil)
end Go.SX
