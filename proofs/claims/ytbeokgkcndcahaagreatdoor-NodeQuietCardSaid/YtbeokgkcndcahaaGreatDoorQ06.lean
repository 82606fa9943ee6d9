/-
  Maps: as lists of their entries, in the order in which these came.
  Slices: what a slice reads as, whatever array lies behind it.
-/
import Derived.Test.YtbeokgkcndcahaaGreatDoorQ05
import Derived.MapKept
set_option linter.all false
namespace Go.SX
open Go.MapKept

section lists
variable {κ ν : Type} [DecidableEq κ]
def mget : List (κ × ν) → κ → Option ν
  | [], _ => none
  | (a, v) :: r, k => if a = k then some v else mget r k
def mput : List (κ × ν) → κ → ν → List (κ × ν)
  | [], k, v => [(k, v)]
  | (a, u) :: r, k, v => if a = k then (k, v) :: r else (a, u) :: mput r k v
def mdel : List (κ × ν) → κ → List (κ × ν)
  | [], _ => []
  | (a, u) :: r, k => if a = k then r else (a, u) :: mdel r k
def idxOf (k : κ) : List κ → Option Nat
  | [] => none
  | a :: r => if a = k then some 0 else (idxOf k r).map (· + 1)
/-- What a look for a key comes to. -/
def findK (k : κ) (ks : List κ) (es : List MapEntry) : Option (Nat × Value) := (idxOf k ks).bind fun i => (es[i]?).map fun e => (i, e.val)
theorem idxOf_spec {k : κ} : ∀ {l : List κ} {i : Nat}, idxOf k l = some i → l[i]? = some k
  | [], _, h => by simp [idxOf] at h
  | a :: r, i, h => by
    simp only [idxOf] at h
    split at h
    · rename_i e; cases h; simp [e]
    · obtain ⟨j, hj, rfl⟩ := Option.map_eq_some_iff.1 h
      simpa using idxOf_spec hj
theorem mget_idx (k : κ) : ∀ (m : List (κ × ν)), mget m k = (idxOf k (m.map (·.1))).bind fun i => (m[i]?).map (·.2)
  | [] => rfl
  | (a, v) :: r => by
    simp only [mget, List.map_cons, idxOf]
    split
    · simp
    · rw [mget_idx k r]
      cases idxOf k (r.map (·.1)) <;> simp
theorem mput_some (k : κ) (v : ν) : ∀ {m : List (κ × ν)} {i : Nat}, idxOf k (m.map (·.1)) = some i → mput m k v = m.set i (k, v)
  | [], _, h => by simp [idxOf] at h
  | (a, u) :: r, i, h => by
    simp only [List.map_cons, idxOf] at h
    simp only [mput]
    split at h
    · rename_i e; cases h; simp [e]
    · rename_i e
      obtain ⟨j, hj, rfl⟩ := Option.map_eq_some_iff.1 h
      simp [e, mput_some k v hj]
theorem mput_none (k : κ) (v : ν) : ∀ {m : List (κ × ν)}, idxOf k (m.map (·.1)) = none → mput m k v = m ++ [(k, v)]
  | [], _ => rfl
  | (a, u) :: r, h => by
    simp only [List.map_cons, idxOf] at h
    simp only [mput]
    split at h
    · cases h
    · rename_i e
      simp [e, mput_none k v (Option.map_eq_none_iff.1 h)]
theorem mdel_some (k : κ) : ∀ {m : List (κ × ν)} {i : Nat}, idxOf k (m.map (·.1)) = some i → mdel m k = m.eraseIdx i
  | [], _, h => by simp [idxOf] at h
  | (a, u) :: r, i, h => by
    simp only [List.map_cons, idxOf] at h
    simp only [mdel]
    split at h
    · rename_i e; cases h; simp [e]
    · rename_i e
      obtain ⟨j, hj, rfl⟩ := Option.map_eq_some_iff.1 h
      simp [e, mdel_some k hj]
theorem mdel_none (k : κ) : ∀ {m : List (κ × ν)}, idxOf k (m.map (·.1)) = none → mdel m k = m
  | [], _ => rfl
  | (a, u) :: r, h => by
    simp only [List.map_cons, idxOf] at h
    simp only [mdel]
    split at h
    · cases h
    · rename_i e
      simp [e, mdel_none k (Option.map_eq_none_iff.1 h)]
end lists

/-- A key's type: keys are checked, looked for, and told apart as plain data. -/
structure KT (P : Program) (T : TypeId) {κ : Type} [DecidableEq κ] (ek : κ → SV1) : Prop where
  check : ∀ (em : Bool) (x : κ) (w : World), (Instr.checkKey em 10000 T (ek x).val).run P w = .ok () w
  find : ∀ (x : κ) (es : List MapEntry) (ks : List κ) (w : World), es.map (·.key) = ks.map (fun y => (ek y).val) → (Instr.findKey T (ek x).val es).run P w = .ok (findK x ks es) w
  same : ∀ x, Instr.sameBits 10000 (ek x).val (ek x).val = true
theorem kt_plain {P : Program} {T : TypeId} {d : TypeDesc} {κ : Type} [DecidableEq κ] {ek : κ → SV1} (hd : P.underlying T = some d) (hk : ∀ x, IsKey d (ek x).val) (inj : ∀ x y, (ek x).val = (ek y).val → x = y) : KT P T ek := by
  refine ⟨fun em x w => run_checkKey hd (hk x) em 9999, fun x es ks w he => ?_, fun x => ?_⟩
  · refine run_findKey hd ?_
    have key : ∀ (es : List MapEntry) (ks : List κ) (i : Nat), es.map (·.key) = ks.map (fun y => (ek y).val) → Instr.findNow d (ek x).val es i = some ((findK x ks es).map fun p => (i + p.1, p.2)) := by
      intro es
      induction es with
      | nil => intro ks i he; cases ks <;> simp at he; rfl
      | cons e es ih =>
        intro ks i he
        cases ks with
        | nil => simp at he
        | cons y ks =>
          simp only [List.map_cons, List.cons.injEq] at he
          obtain ⟨h1, h2⟩ := he
          obtain ⟨r, hr, hiff⟩ := sameNow_of_keys (hk x) (h1 ▸ hk y)
          cases r with
          | true =>
            have : y = x := (inj _ _ ((hiff.1 rfl).trans h1)).symm
            simp [Instr.findNow, hr, findK, idxOf, this]
          | false =>
            have hne : ¬ y = x := fun q => by
              have := hiff.2 (by rw [h1, q]); cases this
            simp only [Instr.findNow, hr, ih ks (i + 1) h2, findK, idxOf, hne, if_false]
            cases idxOf x ks with
            | none => rfl
            | some j =>
              simp only [Option.map_some, Option.bind_some, List.getElem?_cons_succ]
              cases es[j]? with
              | none => rfl
              | some z => simp; omega
    have := key es ks 0 he
    rw [this]
    cases findK x ks es <;> simp
  · have := hk x
    cases hv : (ek x).val <;> rw [hv] at this <;> cases d <;> simp_all [IsKey, Instr.sameBits, bytes_beq]
@[reducible] def ekInt (n : Int) : SV1 := .o (.int .i64 n)
@[reducible] def ekStr (s : ByteArray) : SV1 := .o (.string s)
theorem kt_int {P : Program} [Tab P] {T : TypeId} {ti : TInf} (ht : Tab.ti P T = some ti) (hd : ti.d = .int .i64) : KT P T ekInt := kt_plain (d := .int .i64) (by have := (Tab.ok T ti ht).desc; rw [hd] at this; exact this) (fun _ => rfl) (fun x y h => by simpa [ekInt] using h)
theorem kt_str {P : Program} [Tab P] {T : TypeId} {ti : TInf} (ht : Tab.ti P T = some ti) (hd : ti.d = .str) : KT P T ekStr := kt_plain (d := .string) (by have := (Tab.ok T ti ht).desc; rw [hd] at this; exact this) (fun _ => trivial) (fun x y h => by simpa [ekStr] using h)

theorem map_eraseIdx {α β : Type} (f : α → β) : ∀ (l : List α) (i : Nat), (l.eraseIdx i).map f = (l.map f).eraseIdx i
  | [], _ => rfl
  | x :: l, 0 => rfl
  | x :: l, i + 1 => by simp [List.eraseIdx, map_eraseIdx f l i]
section run
variable {P : Program} {κ ν : Type} [DecidableEq κ] {T kT eT : TypeId} {ek : κ → SV1} {ev' : ν → SV1} {m : List (κ × ν)} {b : Nat}
theorem run_lookup_own (hu : P.underlying T = some (.map kT eT)) (hk : KT P kT ek) {w : World} (hm : MapAt b ek ev' m (vw w)) (kk : κ) (z0 : ν) (hz : ∀ w, (zeroValue eT).run P w = .ok (ev' z0).val w) (ok : Bool) :
    (Instr.lookup T (.map (some b)) (ek kk).val ok).run P w = .ok (if ok then .tuple #[(ev' ((mget m kk).getD z0)).val, .bool (mget m kk).isSome] else (ev' ((mget m kk).getD z0)).val) w := by
  obtain ⟨es, clock, hb, hes, _, _⟩ := hm
  have hrun : (underlying T).run P w = .ok (.map kT eT) w := run_underlying hu w
  have hkeys : es.toList.map (·.key) = (m.map (·.1)).map (fun y => (ek y).val) := by
    have := congrArg (List.map Prod.fst) hes
    simpa [List.map_map, Function.comp_def] using this
  have hf := hk.find kk es.toList (m.map (·.1)) w hkeys
  have hfk : findK kk (m.map (·.1)) es.toList = (idxOf kk (m.map (·.1))).bind fun i => (m[i]?).map fun x => (i, (ev' x.2).val) := by
    unfold findK
    cases hi : idxOf kk (m.map (·.1)) with
    | none => rfl
    | some i =>
      simp only [Option.bind_some]
      have := congrArg (fun l => l[i]?) hes
      simp only [List.getElem?_map] at this
      cases he : es.toList[i]? with
      | none => rw [he] at this; cases hmi : m[i]? with
        | none => rfl
        | some x => rw [hmi] at this; simp at this
      | some e => rw [he] at this; cases hmi : m[i]? with
        | none => rw [hmi] at this; simp at this
        | some x => rw [hmi] at this; simp at this; simp [this.2]
  have hg : (getObj b).run P w = .ok (.map es clock) w := by simp only [vw] at hb; simp [getObj, Sem.run, hb]
  simp only [Instr.lookup, Sem.run_bind, hrun, Result.andThen_ok, hg, Sem.run_pure, hk.check, hf, hfk, mget_idx]
  cases hi : idxOf kk (m.map (·.1)) with
  | none => cases ok <;> simp [hz]
  | some i =>
    simp only [Option.bind_some]
    have := idxOf_spec hi
    simp only [List.getElem?_map] at this
    cases hmi : m[i]? with
    | none => rw [hmi] at this; simp at this
    | some x => cases ok <;> simp
theorem run_lookup_nil (hu : P.underlying T = some (.map kT eT)) (hk : KT P kT ek) {w : World} (kk : κ) {z : Value} (hz : ∀ w, (zeroValue eT).run P w = .ok z w) (ok : Bool) :
    (Instr.lookup T (.map none) (ek kk).val ok).run P w = .ok (if ok then .tuple #[z, .bool false] else z) w := by
  have hrun : (underlying T).run P w = .ok (.map kT eT) w := run_underlying hu w
  have hf := hk.find kk [] [] w rfl
  have hfk : findK kk ([] : List κ) [] = none := rfl
  rw [hfk] at hf
  simp only [Instr.lookup, Sem.run_bind, hrun, Result.andThen_ok, Sem.run_pure, hk.check, hf, hz]
/-- A store into a map. -/
theorem run_update_own (hu : P.underlying T = some (.map kT eT)) (hk : KT P kT ek) {w : World} (hm : MapAt b ek ev' m (vw w)) (kk : κ) (v : ν) :
    ∃ o, (Instr.mapUpdate T (.map (some b)) (ek kk).val (ev' v).val).run P w = .ok () { w with heap := w.heap.setIfInBounds b o } ∧ b < w.heap.size ∧ ∀ h, MapAt b ek ev' (mput m kk v) (put h b o) := by
  obtain ⟨es, clock, hb, hes, hnd, hlt⟩ := hm
  have hbs : b < w.heap.size := vw_lt hb
  have hrun : (underlying T).run P w = .ok (.map kT eT) w := run_underlying hu w
  have hkeys : es.toList.map (·.key) = (m.map (·.1)).map (fun y => (ek y).val) := by
    have := congrArg (List.map Prod.fst) hes
    simpa [List.map_map, Function.comp_def] using this
  have hf := hk.find kk es.toList (m.map (·.1)) w hkeys
  have hg : (getObj b).run P w = .ok (.map es clock) w := by simp only [vw] at hb; simp [getObj, Sem.run, hb]
  have hs : ∀ o, (setObj b o).run P w = .ok () { w with heap := w.heap.setIfInBounds b o } := fun o => by simp only [vw] at hb; simp [setObj, Sem.run, hb]
  have hlen : es.toList.length = m.length := by simpa using congrArg List.length hes
  cases hi : idxOf kk (m.map (·.1)) with
  | none =>
    have hfk : findK kk (m.map (·.1)) es.toList = none := by simp [findK, hi]
    refine ⟨.map (es.push { key := (ek kk).val, val := (ev' v).val, born := clock }) (clock + 1), ?_, hbs, fun h => ?_⟩
    · simp only [Instr.mapUpdate, Sem.run_bind, hrun, Result.andThen_ok, hg, hk.check, hf, hfk, hs]
    · refine ⟨_, _, put_self _ _ _, ?_, ?_, ?_⟩
      · rw [mput_none kk v hi]; simp [hes]
      · simp only [Array.toList_push, List.map_append, List.map_cons, List.map_nil]
        refine List.nodup_append.2 ⟨hnd, by simp, ?_⟩
        intro x hx y hy
        simp only [List.mem_singleton] at hy
        obtain ⟨e, he, rfl⟩ := List.mem_map.1 hx
        have := hlt e he
        omega
      · intro e he
        simp only [Array.toList_push, List.mem_append, List.mem_singleton] at he
        rcases he with he | rfl
        · have := hlt e he; omega
        · simp
  | some i =>
    have hki := idxOf_spec hi
    simp only [List.getElem?_map] at hki
    obtain ⟨x, hx, hxk⟩ := Option.map_eq_some_iff.1 hki
    have him : i < m.length := (List.getElem?_eq_some_iff.1 hx).1
    obtain ⟨e, he⟩ : ∃ e, es.toList[i]? = some e := ⟨_, List.getElem?_eq_getElem (by omega)⟩
    have hee : es[i]? = some e := by simpa using he
    have hkey : e.key = (ek kk).val := by
      have := congrArg (fun l => l[i]?) hkeys
      simp only [List.getElem?_map, he, hx, Option.map_some, Option.some.injEq] at this
      rw [this, hxk]
    have hfk : findK kk (m.map (·.1)) es.toList = some (i, e.val) := by simp [findK, hi, hee]
    have hstay : (Instr.keyThatStays (ek kk).val (ek kk).val).run P w = .ok (ek kk).val w := by simp [Instr.keyThatStays, hk.same]
    refine ⟨.map (es.modify i fun e => { e with key := (ek kk).val, val := (ev' v).val }) clock, ?_, hbs, fun h => ?_⟩
    · simp only [Instr.mapUpdate, Sem.run_bind, hrun, Result.andThen_ok, hg, hk.check, hf, hfk, hee, Option.map_some, Option.getD_some, hkey, hstay, hs]
    · refine ⟨_, _, put_self _ _ _, ?_, ?_, ?_⟩
      · rw [mput_some kk v hi, Array.toList_modify]
        apply List.ext_getElem?
        intro j
        have hj := congrArg (fun l => l[j]?) hes
        simp only [List.getElem?_map] at hj ⊢
        rw [List.getElem?_modify]
        by_cases hc : i = j
        · subst hc
          rw [he, List.getElem?_set_self him]
          simp
        · rw [List.getElem?_set_ne hc]
          simp only [hc, if_false]
          rw [← hj]
          cases es.toList[j]? <;> simp
      · rw [Array.toList_modify]
        have : (es.toList.modify i fun e => { e with key := (ek kk).val, val := (ev' v).val }).map (·.born) = es.toList.map (·.born) := by
          apply List.ext_getElem?
          intro j
          simp only [List.getElem?_map, List.getElem?_modify]
          cases es.toList[j]? with
          | none => rfl
          | some y => by_cases hc : i = j <;> simp [hc]
        rw [this]; exact hnd
      · intro y hy
        rw [Array.toList_modify] at hy
        obtain ⟨j, hj⟩ := List.mem_iff_getElem?.1 hy
        rw [List.getElem?_modify] at hj
        cases hz : es.toList[j]? with
        | none => rw [hz] at hj; simp at hj
        | some z =>
          rw [hz] at hj
          have := hlt z (List.mem_of_getElem? hz)
          by_cases hc : i = j
          · simp [hc] at hj; subst hj; exact this
          · simp [hc] at hj; subst hj; exact this
theorem run_delete_own (hu : P.underlying T = some (.map kT eT)) (hk : KT P kT ek) {w : World} (hm : MapAt b ek ev' m (vw w)) (kk : κ) (t2 : TypeId) (ty : TypeId) :
    ∃ o, (Builtin.delete_ #[T, t2] ty #[.map (some b), (ek kk).val]).run P w = .ok (.tuple #[]) { w with heap := w.heap.setIfInBounds b o } ∧ b < w.heap.size ∧ ∀ h, MapAt b ek ev' (mdel m kk) (put h b o) := by
  obtain ⟨es, clock, hb, hes, hnd, hlt⟩ := hm
  have hbs : b < w.heap.size := vw_lt hb
  have hrun : (underlying T).run P w = .ok (.map kT eT) w := run_underlying hu w
  have hkeys : es.toList.map (·.key) = (m.map (·.1)).map (fun y => (ek y).val) := by
    have := congrArg (List.map Prod.fst) hes
    simpa [List.map_map, Function.comp_def] using this
  have hf := hk.find kk es.toList (m.map (·.1)) w hkeys
  have hg : (getObj b).run P w = .ok (.map es clock) w := by simp only [vw] at hb; simp [getObj, Sem.run, hb]
  have hs : ∀ o, (setObj b o).run P w = .ok () { w with heap := w.heap.setIfInBounds b o } := fun o => by simp only [vw] at hb; simp [setObj, Sem.run, hb]
  have hlen : es.toList.length = m.length := by simpa using congrArg List.length hes
  cases hi : idxOf kk (m.map (·.1)) with
  | none =>
    have hfk : findK kk (m.map (·.1)) es.toList = none := by simp [findK, hi]
    refine ⟨.map es clock, ?_, hbs, fun h => ⟨_, _, put_self _ _ _, by rw [mdel_none kk hi]; exact hes, hnd, hlt⟩⟩
    simp [Builtin.delete_, Sem.run_bind, hrun, Result.andThen_ok, hg, hk.check, hf, hfk, hs]
  | some i =>
    have hki := idxOf_spec hi
    simp only [List.getElem?_map] at hki
    obtain ⟨x, hx, hxk⟩ := Option.map_eq_some_iff.1 hki
    have him : i < m.length := (List.getElem?_eq_some_iff.1 hx).1
    obtain ⟨e, he⟩ : ∃ e, es.toList[i]? = some e := ⟨_, List.getElem?_eq_getElem (by omega)⟩
    have hee : es[i]? = some e := by simpa using he
    have hfk : findK kk (m.map (·.1)) es.toList = some (i, e.val) := by simp [findK, hi, hee]
    have hel : (es.eraseIdxIfInBounds i).toList = es.toList.eraseIdx i := by simp
    refine ⟨.map (es.eraseIdxIfInBounds i) clock, ?_, hbs, fun h => ⟨_, _, put_self _ _ _, ?_, ?_, ?_⟩⟩
    · simp [Builtin.delete_, Sem.run_bind, hrun, Result.andThen_ok, hg, hk.check, hf, hfk, hs]
    · rw [mdel_some kk hi, hel, map_eraseIdx, hes, map_eraseIdx]
    · rw [hel, map_eraseIdx]
      exact hnd.sublist (List.eraseIdx_sublist _ _)
    · intro y hy
      rw [hel] at hy
      exact hlt y (List.mem_of_mem_eraseIdx hy)
end run

/-! ### The steps -/
section
variable {P : Program} [Tab P] {N : Nat} {cx : Cx P N} {K : Hp} {ds : List Deferred} {k : List Item} {env : Env} {mem : List Ent} {rg : Rg} {H : List HE} {R : List (Nat × Oper)} {i : Nat} {o : Oper}
variable {κ ν : Type} [DecidableEq κ] {T kT eT : TypeId} {ek : κ → SV1} {ev' : ν → SV1} {m : List (κ × ν)} {b : Nat} {r : List Ent}
theorem MSat.map {w : World} (s : MSat K (.map b ek ev' m :: r) (vw w)) : MapAt b ek ev' m (vw w) := by
  obtain ⟨h1, _, _, _, _, s1, _, _, he, _⟩ := s.head
  obtain ⟨es, clock, hb, hes⟩ := he
  exact ⟨es, clock, s1 _ _ hb, hes⟩
/-- The table's word for a map's type. -/
theorem tab_map {ti : TInf} (ht : Tab.ti P T = some ti) (hd : ti.d = .map kT eT) : P.underlying T = some (.map kT eT) := by
  have := (Tab.ok T ti ht).desc; rw [hd] at this; exact this
/-- A type's zero, as a value. -/
def zshape (ti : TInf) (x : SV1) : Bool := (match x with
  | .o _ => !ti.agg
  | .g _ => ti.agg) && !ti.zero.isEmpty
theorem zero_val {x : SV1} {ti : TInf} (ht : Tab.ti P T = some ti) (hz : ti.zero = x.ch) (hs : zshape ti x = true) (w : World) : (zeroValue T).run P w = .ok x.val w := by
  obtain ⟨y, hy, _, _, h⟩ := (Tab.ok T ti ht).info
  simp only [zshape, Bool.and_eq_true] at hs
  obtain ⟨z, h1, h2, h3⟩ := h (by intro e; rw [e] at hs; simp at hs)
  have : z = x.val := by
    cases x with
    | g q =>
      have ha : ti.agg = true := hs.1
      cases z <;> simp [ha] at h3
      rename_i c
      simp only [Value.cells] at h2
      rw [h2, hz]; rfl
    | o v =>
      have ha : ti.agg = false := by simpa using hs.1
      rw [hz] at h2
      cases z <;> simp [ha] at h3 <;> simpa [Value.cells, SV1.ch, flat, Ch.vals] using h2
  simp [zeroValue, typeInfo, hy, h1, this]
theorem sxo_lookup (ek : κ → SV1) (ev' : ν → SV1) {x y : Operand} {kk : κ} {ti te : TInf} (z0 : ν) (ho : o.op = .lookup T x y false) (hg : guardE rg.ops o env = some true) (hx : ev env x = some (.s (.o (.map (some b))))) (hy : ev env y = some (.s (ek kk)))
    (hb : Pick mem (.map b ek ev' m) r) (ht : Tab.ti P T = some ti) (hd : ti.d = .map kT eT) (hk : KT P kT ek) (he : Tab.ti P eT = some te) (hz : te.zero = (ev' z0).ch) (hs : zshape te (ev' z0) = true) (hdst : dstOk N o.dst = true)
    (hst : rg.flo.any (fun x => Nat.beq x.1 i) = false)
    (h : SXo cx K ds rg H R k (setE env o.dst (.s (ev' ((mget m kk).getD z0)))) mem) (hH : ∀ x ∈ H, rg.fr P x.idx i = true → x.chk mem := by repeat (first | exact hh_nil | refine hh_free rfl ?_ | refine hh_chk ⟨_, _, _, (by first | exact .head | exact .tail .head | exact .tail (.tail .head) | exact .tail (.tail (.tail .head)) | exact .tail (.tail (.tail (.tail .head)))), (by rfl)⟩ ?_ | refine hh_chk trivial ?_)) : SXo cx K ds rg H ((i, o) :: R) k env mem :=
  sxo_val (v := .s (ev' ((mget m kk).getD z0))) (pu := False) (chk := fun _ => False) hg (by rw [ho]; rfl) hdst (fun a w s => by
    have := run_lookup_own (tab_map ht hd) hk (MSat.map (MSat.pick hb s.mem)) kk z0 (fun w => zero_val he hz hs w) false
    simp only [Bool.false_eq_true, if_false] at this
    simp [execOp, ho, s.env.eval hx, s.env.eval hy, this]) (.still (by rw [ho]; rfl) hst) (fun h => h.elim) (fun _ h => h.elim) hH h
theorem sxo_lookupOk (ek : κ → SV1) (ev' : ν → SV1) {x y : Operand} {kk : κ} {ti te : TInf} (z0 : ν) (ho : o.op = .lookup T x y true) (hg : guardE rg.ops o env = some true) (hx : ev env x = some (.s (.o (.map (some b))))) (hy : ev env y = some (.s (ek kk)))
    (hb : Pick mem (.map b ek ev' m) r) (ht : Tab.ti P T = some ti) (hd : ti.d = .map kT eT) (hk : KT P kT ek) (he : Tab.ti P eT = some te) (hz : te.zero = (ev' z0).ch) (hs : zshape te (ev' z0) = true) (hdst : dstOk N o.dst = true)
    (hst : rg.flo.any (fun x => Nat.beq x.1 i) = false)
    (h : SXo cx K ds rg H R k (setE env o.dst (.t [ev' ((mget m kk).getD z0), .o (.bool (mget m kk).isSome)])) mem) (hH : ∀ x ∈ H, rg.fr P x.idx i = true → x.chk mem := by repeat (first | exact hh_nil | refine hh_free rfl ?_ | refine hh_chk ⟨_, _, _, (by first | exact .head | exact .tail .head | exact .tail (.tail .head) | exact .tail (.tail (.tail .head)) | exact .tail (.tail (.tail (.tail .head)))), (by rfl)⟩ ?_ | refine hh_chk trivial ?_)) : SXo cx K ds rg H ((i, o) :: R) k env mem :=
  sxo_val (v := .t [ev' ((mget m kk).getD z0), .o (.bool (mget m kk).isSome)]) (pu := False) (chk := fun _ => False) hg (by rw [ho]; rfl) hdst (fun a w s => by
    have := run_lookup_own (tab_map ht hd) hk (MSat.map (MSat.pick hb s.mem)) kk z0 (fun w => zero_val he hz hs w) true
    simp only [if_true] at this
    simp [execOp, ho, s.env.eval hx, s.env.eval hy, this]) (.still (by rw [ho]; rfl) hst) (fun h => h.elim) (fun _ h => h.elim) hH h
theorem sxo_lookupF (ek : κ → SV1) (ev' : ν → SV1) {x y : Operand} {kk : κ} {ti te : TInf} (z0 : ν) (ho : o.op = .lookup T x y false) (hg : guardE rg.ops o env = some true) (hx : ev env x = some (.s (.o (.map (some b))))) (hy : ev env y = some (.s (ek kk)))
    (hb : Pick mem (.map b ek ev' m) r) (ht : Tab.ti P T = some ti) (hd : ti.d = .map kT eT) (hk : KT P kT ek) (he : Tab.ti P eT = some te) (hz : te.zero = (ev' z0).ch) (hs : zshape te (ev' z0) = true) (hdst : dstOk N o.dst = true)
    (h : SXo cx K ds rg (⟨i, fun mm => ∃ (k1 : κ) (m1 : List (κ × ν)) (r1 : List Ent), Pick mm (.map b ek ev' m1) r1 ∧ (k1, mget m1 k1) = (kk, mget m kk)⟩ :: H) R k (setE env o.dst (.s (ev' ((mget m kk).getD z0)))) mem) (hH : ∀ x ∈ H, rg.fr P x.idx i = true → x.chk mem := by repeat (first | exact hh_nil | refine hh_free rfl ?_ | refine hh_chk ⟨_, _, _, (by first | exact .head | exact .tail .head | exact .tail (.tail .head) | exact .tail (.tail (.tail .head)) | exact .tail (.tail (.tail (.tail .head)))), (by rfl)⟩ ?_ | refine hh_chk trivial ?_)) : SXo cx K ds rg H ((i, o) :: R) k env mem :=
  sxo_val (v := .s (ev' ((mget m kk).getD z0))) (pu := False) (chk := fun mm => ∃ (k1 : κ) (m1 : List (κ × ν)) (r1 : List Ent), Pick mm (.map b ek ev' m1) r1 ∧ (k1, mget m1 k1) = (kk, mget m kk)) hg (by rw [ho]; rfl) hdst (fun a w s => by
    have := run_lookup_own (tab_map ht hd) hk (MSat.map (MSat.pick hb s.mem)) kk z0 (fun w => zero_val he hz hs w) false
    simp only [Bool.false_eq_true, if_false] at this
    simp [execOp, ho, s.env.eval hx, s.env.eval hy, this]) .keep (fun h => h.elim) (fun m' ⟨k1, m1, r1, h1, h2⟩ a he' w hm => by
    simp only [Prod.mk.injEq] at h2
    obtain ⟨hk1, h2⟩ := h2
    subst hk1
    rw [← h2]
    have := run_lookup_own (tab_map ht hd) hk (MSat.map (MSat.pick h1 hm)) k1 z0 (fun w => zero_val he hz hs w) false
    simp only [Bool.false_eq_true, if_false] at this
    simp [execOp, ho, he'.eval hx, he'.eval hy, this]) hH h
theorem sxo_lookupOkF (ek : κ → SV1) (ev' : ν → SV1) {x y : Operand} {kk : κ} {ti te : TInf} (z0 : ν) (ho : o.op = .lookup T x y true) (hg : guardE rg.ops o env = some true) (hx : ev env x = some (.s (.o (.map (some b))))) (hy : ev env y = some (.s (ek kk)))
    (hb : Pick mem (.map b ek ev' m) r) (ht : Tab.ti P T = some ti) (hd : ti.d = .map kT eT) (hk : KT P kT ek) (he : Tab.ti P eT = some te) (hz : te.zero = (ev' z0).ch) (hs : zshape te (ev' z0) = true) (hdst : dstOk N o.dst = true)
    (h : SXo cx K ds rg (⟨i, fun mm => ∃ (k1 : κ) (m1 : List (κ × ν)) (r1 : List Ent), Pick mm (.map b ek ev' m1) r1 ∧ (k1, mget m1 k1) = (kk, mget m kk)⟩ :: H) R k (setE env o.dst (.t [ev' ((mget m kk).getD z0), .o (.bool (mget m kk).isSome)])) mem) (hH : ∀ x ∈ H, rg.fr P x.idx i = true → x.chk mem := by repeat (first | exact hh_nil | refine hh_free rfl ?_ | refine hh_chk ⟨_, _, _, (by first | exact .head | exact .tail .head | exact .tail (.tail .head) | exact .tail (.tail (.tail .head)) | exact .tail (.tail (.tail (.tail .head)))), (by rfl)⟩ ?_ | refine hh_chk trivial ?_)) : SXo cx K ds rg H ((i, o) :: R) k env mem :=
  sxo_val (v := .t [ev' ((mget m kk).getD z0), .o (.bool (mget m kk).isSome)]) (pu := False) (chk := fun mm => ∃ (k1 : κ) (m1 : List (κ × ν)) (r1 : List Ent), Pick mm (.map b ek ev' m1) r1 ∧ (k1, mget m1 k1) = (kk, mget m kk)) hg (by rw [ho]; rfl) hdst (fun a w s => by
    have := run_lookup_own (tab_map ht hd) hk (MSat.map (MSat.pick hb s.mem)) kk z0 (fun w => zero_val he hz hs w) true
    simp only [if_true] at this
    simp [execOp, ho, s.env.eval hx, s.env.eval hy, this]) .keep (fun h => h.elim) (fun m' ⟨k1, m1, r1, h1, h2⟩ a he' w hm => by
    simp only [Prod.mk.injEq] at h2
    obtain ⟨hk1, h2⟩ := h2
    subst hk1
    rw [← h2]
    have := run_lookup_own (tab_map ht hd) hk (MSat.map (MSat.pick h1 hm)) k1 z0 (fun w => zero_val he hz hs w) true
    simp only [if_true] at this
    simp [execOp, ho, he'.eval hx, he'.eval hy, this]) hH h
theorem sxo_lookupNil (ek : κ → SV1) {x y : Operand} {kk : κ} {ti te : TInf} {z : SV1} (ho : o.op = .lookup T x y false) (hg : guardE rg.ops o env = some true) (hx : ev env x = some (.s (.o (.map none)))) (hy : ev env y = some (.s (ek kk)))
    (ht : Tab.ti P T = some ti) (hd : ti.d = .map kT eT) (hk : KT P kT ek) (he : Tab.ti P eT = some te) (hz : te.zero = z.ch) (hs : zshape te z = true) (hdst : dstOk N o.dst = true)
    (hst : rg.flo.any (fun x => Nat.beq x.1 i) = false)
    (h : SXo cx K ds rg H R k (setE env o.dst (.s z)) mem) (hH : ∀ x ∈ H, rg.fr P x.idx i = true → x.chk mem := by repeat (first | exact hh_nil | refine hh_free rfl ?_ | refine hh_chk ⟨_, _, _, (by first | exact .head | exact .tail .head | exact .tail (.tail .head) | exact .tail (.tail (.tail .head)) | exact .tail (.tail (.tail (.tail .head)))), (by rfl)⟩ ?_ | refine hh_chk trivial ?_)) : SXo cx K ds rg H ((i, o) :: R) k env mem :=
  sxo_val (v := .s z) (pu := False) (chk := fun _ => False) hg (by rw [ho]; rfl) hdst (fun a w s => by
    have := run_lookup_nil (tab_map ht hd) hk (w := w) kk (fun w => zero_val he hz hs w) false
    simp only [Bool.false_eq_true, if_false] at this
    simp [execOp, ho, s.env.eval hx, s.env.eval hy, this]) (.still (by rw [ho]; rfl) hst) (fun h => h.elim) (fun _ h => h.elim) hH h
theorem MSat.turnMap {m' : List (κ × ν)} {o : Obj} {H : Hp} (s : MSat K (.map b ek ev' m :: r) H) (h : ∀ h, MapAt b ek ev' m' (put h b o)) : MSat K (.map b ek ev' m' :: r) (put H b o) :=
  s.turn (fun h1 he => by obtain ⟨es, clock, hb, _⟩ := he; simp [hb]) (fun h1 _ _ => h h1)
theorem sxo_update (ek : κ → SV1) (ev' : ν → SV1) {x y z : Operand} {kk : κ} {v : ν} {ti : TInf} (ho : o.op = .mapUpdate T x y z ∨ o.op = .insert T x y z) (hg : guardE rg.ops o env = some true) (hx : ev env x = some (.s (.o (.map (some b))))) (hy : ev env y = some (.s (ek kk)))
    (hz : ev env z = some (.s (ev' v))) (hb : Pick mem (.map b ek ev' m) r) (ht : Tab.ti P T = some ti) (hd : ti.d = .map kT eT) (hk : KT P kT ek) (hdst : dstOk N o.dst = true) (hl : rg.lt P i = false)
    (h : SXo cx K ds rg H R k (setE env o.dst (.s (.o undef))) (.map b ek ev' (mput m kk v) :: r)) (hH : ∀ x ∈ H, rg.fr P x.idx i = true → x.chk (.map b ek ev' (mput m kk v) :: r) := by repeat (first | exact hh_nil | refine hh_free rfl ?_ | refine hh_chk ⟨_, _, _, (by first | exact .head | exact .tail .head | exact .tail (.tail .head) | exact .tail (.tail (.tail .head)) | exact .tail (.tail (.tail (.tail .head)))), (by rfl)⟩ ?_ | refine hh_chk trivial ?_)) : SXo cx K ds rg H ((i, o) :: R) k env mem :=
  sxo_act hl hg (by rcases ho with ho | ho <;> rw [ho] <;> rfl) fun a w s => by
    have hm := MSat.pick hb s.mem
    obtain ⟨ob, hr, hlt, hm'⟩ := run_update_own (P := P) (tab_map ht hd) hk (MSat.map hm) kk v
    have hrun : (execOp a.eval o).run P w = .ok .skip { w with heap := w.heap.setIfInBounds b ob } := by
      rcases ho with ho | ho <;> simp [execOp, ho, s.env.eval hx, s.env.eval hy, s.env.eval hz, hr]
    unfold OW
    rw [hrun]
    refine ⟨_, _, _, ⟨by rw [Act.put_def]; exact s.ds, by rw [Act.put_size]; exact s.size, s.env.put s.size hdst (.s (.o undef)), ?_, s.os, s.out⟩, hH, h⟩
    rw [vw_set w b ob hlt]
    exact hm.turnMap hm'
theorem sxo_delete (ek : κ → SV1) {x y : Operand} {kk : κ} {ti : TInf} {t2 : TypeId} (ho : o.op = .call { callee := .builtin .delete, args := #[x, y], argTypes := #[T, t2] }) (hg : guardE rg.ops o env = some true) (hx : ev env x = some (.s (.o (.map (some b))))) (hy : ev env y = some (.s (ek kk)))
    (hb : Pick mem (.map b ek ev' m) r) (ht : Tab.ti P T = some ti) (hd : ti.d = .map kT eT) (hk : KT P kT ek) (hdst : dstOk N o.dst = true) (hl : rg.lt P i = false)
    (h : SXo cx K ds rg H R k (setE env o.dst (.s (.o undef))) (.map b ek ev' (mdel m kk) :: r)) (hH : ∀ x ∈ H, rg.fr P x.idx i = true → x.chk (.map b ek ev' (mdel m kk) :: r) := by repeat (first | exact hh_nil | refine hh_free rfl ?_ | refine hh_chk ⟨_, _, _, (by first | exact .head | exact .tail .head | exact .tail (.tail .head) | exact .tail (.tail (.tail .head)) | exact .tail (.tail (.tail (.tail .head)))), (by rfl)⟩ ?_ | refine hh_chk trivial ?_)) : SXo cx K ds rg H ((i, o) :: R) k env mem :=
  sxo_act hl hg (by rw [ho]; rfl) fun a w s => by
    have hm := MSat.pick hb s.mem
    obtain ⟨ob, hr, hlt, hm'⟩ := run_delete_own (P := P) (tab_map ht hd) hk (MSat.map hm) kk t2 o.type
    have hrun : (execOp a.eval o).run P w = .ok (.value undef) { w with heap := w.heap.setIfInBounds b ob } := by
      simp [execOp, ho, resolve, invoke, builtin, s.env.eval hx, s.env.eval hy, hr, undef]
    unfold OW
    rw [hrun]
    refine ⟨_, _, _, ⟨by rw [Act.put_def]; exact s.ds, by rw [Act.put_size]; exact s.size, s.env.put s.size hdst (.s (.o undef)), ?_, s.os, s.out⟩, hH, h⟩
    rw [vw_set w b ob hlt]
    exact hm.turnMap hm'
/-- len of a map of one's own. -/
theorem sxo_lenMap {x : Operand} {ti : TInf} (ho : o.op = .call { callee := .builtin .len, args := #[x], argTypes := #[T] }) (hg : guardE rg.ops o env = some true) (hx : ev env x = some (.s (.o (.map (some b)))))
    (hb : Pick mem (.map b ek ev' m) r) (ht : Tab.ti P T = some ti) (hd : ti.d = .map kT eT) (hdst : dstOk N o.dst = true) (hst : rg.flo.any (fun x => Nat.beq x.1 i) = false)
    (h : SXo cx K ds rg H R k (setE env o.dst (.s (.o (.int .i64 m.length)))) mem) (hH : ∀ x ∈ H, rg.fr P x.idx i = true → x.chk mem := by repeat (first | exact hh_nil | refine hh_free rfl ?_ | refine hh_chk ⟨_, _, _, (by first | exact .head | exact .tail .head | exact .tail (.tail .head) | exact .tail (.tail (.tail .head)) | exact .tail (.tail (.tail (.tail .head)))), (by rfl)⟩ ?_ | refine hh_chk trivial ?_)) : SXo cx K ds rg H ((i, o) :: R) k env mem :=
  sxo_val (v := .s (.o (.int .i64 m.length))) (pu := False) (chk := fun _ => False) hg (by rw [ho]; rfl) hdst (fun a w s => by
    obtain ⟨es, clock, hbb, hes, _⟩ := MSat.map (MSat.pick hb s.mem)
    have hrun : (underlying T).run P w = .ok (.map kT eT) w := run_underlying (tab_map ht hd) w
    have hgo : (getObj b).run P w = .ok (.map es clock) w := by simp only [vw] at hbb; simp [getObj, Sem.run, hbb]
    have hlen : es.size = m.length := by simpa using congrArg List.length hes
    simp [execOp, ho, resolve, invoke, builtin, s.env.eval hx, Builtin.len_, hrun, hgo, goInt, hlen]) (.still (by rw [ho]; rfl) hst) (fun h => h.elim) (fun _ h => h.elim) hH h
theorem sxo_lenMapNil {x : Operand} {ti : TInf} (ho : o.op = .call { callee := .builtin .len, args := #[x], argTypes := #[T] }) (hg : guardE rg.ops o env = some true) (hx : ev env x = some (.s (.o (.map none))))
    (ht : Tab.ti P T = some ti) (hd : ti.d = .map kT eT) (hdst : dstOk N o.dst = true) (hst : rg.flo.any (fun x => Nat.beq x.1 i) = false)
    (h : SXo cx K ds rg H R k (setE env o.dst (.s (.o (.int .i64 0)))) mem) (hH : ∀ x ∈ H, rg.fr P x.idx i = true → x.chk mem := by repeat (first | exact hh_nil | refine hh_free rfl ?_ | refine hh_chk ⟨_, _, _, (by first | exact .head | exact .tail .head | exact .tail (.tail .head) | exact .tail (.tail (.tail .head)) | exact .tail (.tail (.tail (.tail .head)))), (by rfl)⟩ ?_ | refine hh_chk trivial ?_)) : SXo cx K ds rg H ((i, o) :: R) k env mem :=
  sxo_val (v := .s (.o (.int .i64 0))) (pu := False) (chk := fun _ => False) hg (by rw [ho]; rfl) hdst (fun a w s => by
    have hrun : (underlying T).run P w = .ok (.map kT eT) w := run_underlying (tab_map ht hd) w
    simp [execOp, ho, resolve, invoke, builtin, s.env.eval hx, Builtin.len_, hrun, goInt]) (.still (by rw [ho]; rfl) hst) (fun h => h.elim) (fun _ h => h.elim) hH h
/-- A new map. -/
theorem sxo_makeMap {κ ν : Type} (ek : κ → SV1) (ev' : ν → SV1) (ho : o.op = .makeMap T none) (hg : guardE rg.ops o env = some true) (hdst : dstOk N o.dst = true) (hl : rg.lt P i = false)
    (h : ∀ b, SXo cx K ds rg H R k (setE env o.dst (.s (.o (.map (some b))))) (.map b ek ev' [] :: mem)) (hH : ∀ b, ∀ y ∈ H, rg.fr P y.idx i = true → y.chk (.map b ek ev' [] :: mem) := by intro _; repeat (first | exact hh_nil | refine hh_free rfl ?_ | refine hh_chk ⟨_, _, _, (by first | exact .head | exact .tail .head | exact .tail (.tail .head) | exact .tail (.tail (.tail .head)) | exact .tail (.tail (.tail (.tail .head)))), (by rfl)⟩ ?_ | refine hh_chk trivial ?_)) : SXo cx K ds rg H ((i, o) :: R) k env mem :=
  sxo_new (ob := .map #[] 0) (ent := fun b => .map b ek ev' []) (val := fun b => .s (.o (.map (some b)))) hg (by rw [ho]; rfl) hdst hl (fun a w s => by simp [execOp, ho, Instr.makeMap])
    (fun b => ⟨#[], 0, one_self _ _, rfl, List.nodup_nil, fun e he => by simp at he⟩) h hH
end
end Go.SX

namespace Go.SX

section run
variable {P : Program} [Tab P] {T T0 : TypeId} {ti : TInf}
theorem run_load_at (hT : TOk P T ti) {b o1 fo : Nat} {cs : List Ch} {v : SV1} (hv : partV ti cs fo = some v) {w : World} {fz : Nat × Nat} {X : Array Value}
    (hX : ∀ (j : Nat) (u : Value), (flat cs)[j]? = some u → X[o1 + j]? = some u) (hb : vw w b = some (.cells X T0 fz)) : (Instr.loadAt T (.pointer (some ⟨b, o1 + fo, none⟩))).run P w = .ok v.val w := by
  have hc : ∀ (j : Nat) (u : Value), (flat cs)[j]? = some u → w.cell? ⟨b, o1 + j, none⟩ = some u := by
    intro j u hu
    unfold vw at hb
    simp [World.cell?, hb, hX j u hu]
  unfold partV at hv
  split at hv
  · rename_i r hr
    obtain ⟨p, rfl, hp⟩ := dropCh_spec hr
    have hy : (flat p).length = fo := by rw [flat_length, hp]
    split at hv
    · rename_i ha
      split at hv
      · rename_i q hq
        cases hv
        obtain ⟨q', rfl, hw⟩ := takeCh_spec hq
        have hz : (flat q).length = ti.size := by rw [flat_length, hw]
        have := run_loadCells_list (P := P) w ⟨b, o1 + fo, none⟩ (flat q) (fun j u hu => by
          rw [Addr.add_plain, Nat.add_assoc]
          refine hc _ _ ?_
          rw [flat_append, flat_append, List.getElem?_append_right (by omega), hy, Nat.add_sub_cancel_left, List.getElem?_append_left (List.getElem?_eq_some_iff.1 hu).1]
          exact hu)
        rw [hz] at this
        simp [Instr.loadAt, Instr.sureAddr, loadVar, hT.isAgg, ha, hT.size, this, agv]
      · cases hv
    · rename_i ha
      split at hv
      · rename_i u r'
        cases hv
        have := hc fo u (by rw [flat_append, List.getElem?_append_right (by omega), hy]; simp [flat, Ch.vals])
        simp [Instr.loadAt, Instr.sureAddr, loadVar, hT.isAgg, ha, this]
      · cases hv
  · cases hv
/-- What a row of cells is behind a store of some of them. -/
def spliceA (X : Array Value) (at_ : Nat) (vs : List Value) : Array Value := (X.toList.take at_ ++ vs ++ X.toList.drop (at_ + vs.length)).toArray
theorem spliceA_size {X : Array Value} {at_ : Nat} {vs : List Value} (h : at_ + vs.length ≤ X.size) : (spliceA X at_ vs).size = X.size := by simp [spliceA]; omega
theorem spliceA_in {X : Array Value} {at_ : Nat} {vs : List Value} (h : at_ + vs.length ≤ X.size) {j : Nat} (hj : j < vs.length) : (spliceA X at_ vs)[at_ + j]? = vs[j]? := by
  have h1 : (X.toList.take at_).length = at_ := by simp; omega
  simp only [spliceA, List.getElem?_toArray, List.append_assoc]
  rw [List.getElem?_append_right (by omega), h1, Nat.add_sub_cancel_left, List.getElem?_append_left hj]
theorem spliceA_out {X : Array Value} {at_ : Nat} {vs : List Value} (h : at_ + vs.length ≤ X.size) {j : Nat} (hj : j < at_ ∨ at_ + vs.length ≤ j) : (spliceA X at_ vs)[j]? = X[j]? := by
  have h1 : (X.toList.take at_).length = at_ := by simp; omega
  simp only [spliceA, List.getElem?_toArray, List.append_assoc]
  rcases hj with hj | hj
  · rw [List.getElem?_append_left (by omega), List.getElem?_take]
    simp [hj]
  · rw [List.getElem?_append_right (by omega), h1, List.getElem?_append_right (by omega), List.getElem?_drop]
    simp; congr 1; omega
theorem run_store_at (hT : TOk P T ti) {b at_ : Nat} {v : SV1} (hsz : flatW v.ch = ti.size) (h1 : oneCh v.ch = true) {w : World} {X : Array Value}
    (hb : vw w b = some (.cells X T0 (0, 0))) (hX : at_ + ti.size ≤ X.size) : (Instr.storeAt T (.pointer (some ⟨b, at_, none⟩)) v.val).run P w = .ok () (w.setRow b (spliceA X at_ (flat v.ch))) := by
  have hu : (flat v.ch).length = ti.size := by rw [flat_length, hsz]
  have := run_storeCells_at (P := P) b at_ T0 (flat v.ch) 0 X w hb (by omega) (oneCh_spec h1)
  simp only [Instr.storeAt, Instr.sureAddr, storeVar, Sem.run_bind, Sem.run_pure, Result.andThen_ok, hT.size, val_cells v h1]
  simp only [List.size_toArray, hu, ne_eq, not_true_eq_false, if_false, Sem.run_bind, Sem.run_pure, Result.andThen_ok, this]
  congr 2
  simp [spliceA, hu]
end run

section vec
variable {α : Type} {s : Sl} {T : TypeId} {wd : Nat} {enc : α → List Ch} {l : List α} {h : Hp}
theorem VecAt.len (v : VecAt s T wd enc l h) : s.n = l.length := by
  rcases v with ⟨_, h2, _, rfl⟩ | ⟨_, _, _, _, h2, _⟩
  · simpa using h2
  · exact h2
theorem VecAt.mono {h' : Hp} (v : VecAt s T wd enc l h) (u : Sub h h') : VecAt s T wd enc l h' := by
  rcases v with v | ⟨b, o, cs, h1, h2, h3, h4, h5⟩
  · exact .inl v
  · exact .inr ⟨b, o, cs, h1, h2, h3, u _ _ h4, h5⟩
/-- An element's place. -/
theorem VecAt.elem (v : VecAt s T wd enc l h) {i : Nat} (hi : i < l.length) : ∃ b o cs, s.p = some ⟨b, o, none⟩ ∧ h b = some (.cells cs T (0, 0)) ∧ o + s.c * wd ≤ cs.size ∧ s.n = l.length ∧ s.n ≤ s.c ∧
    (∀ x, x ∈ l → flatW (enc x) = wd) ∧ ∀ (i : Nat) (x : α), l[i]? = some x → ∀ (j : Nat) (v : Value), (flat (enc x))[j]? = some v → cs[o + i * wd + j]? = some v := by
  rcases v with ⟨_, _, _, rfl⟩ | ⟨b, o, cs, h1, h2, h3, h4, h5, h6, h7⟩
  · simp at hi
  · exact ⟨b, o, cs, h1, h4, h5, h2, h3, h6, h7⟩
/-- A part of a slice. -/
theorem VecAt.sub (v : VecAt s T wd enc l h) {lo hi : Nat} (h1 : lo ≤ hi) (h2 : hi ≤ l.length) {p : Option Addr} (hp : p = if s.c = lo then s.p else s.p.map (·.add (lo * wd))) :
    VecAt ⟨p, hi - lo, s.c - lo⟩ T wd enc ((l.drop lo).take (hi - lo)) h := by
  rcases v with ⟨e1, e2, e3, rfl⟩ | ⟨b, o, cs, g1, g2, g3, g4, g5, g6, g7⟩
  · simp only [List.length_nil] at h2
    refine .inl ⟨?_, ?_, ?_, ?_⟩
    · rw [hp, e1]; split <;> rfl
    · show hi - lo = 0; omega
    · show s.c - lo = 0; omega
    · simp
  · have hlen : ((l.drop lo).take (hi - lo)).length = hi - lo := by simp; omega
    by_cases hc : s.c = lo
    · have : hi - lo = 0 := by omega
      refine .inr ⟨b, o, cs, ?_, ?_, ?_, g4, ?_, ?_, ?_⟩
      · rw [hp, if_pos hc, g1]
      · show hi - lo = _; omega
      · show hi - lo ≤ s.c - lo; omega
      · show o + (s.c - lo) * wd ≤ cs.size
        rw [hc, Nat.sub_self, Nat.zero_mul]; omega
      · intro x hx; exact g6 x (List.mem_of_mem_drop (List.mem_of_mem_take hx))
      · intro i x hx; rw [this] at hx; simp at hx
    · have hmul : s.c * wd = lo * wd + (s.c - lo) * wd := by rw [← Nat.add_mul]; congr 1; omega
      refine .inr ⟨b, o + lo * wd, cs, ?_, ?_, ?_, g4, ?_, ?_, ?_⟩
      · rw [hp, if_neg hc, g1]; simp [Addr.add_plain]
      · show hi - lo = _; omega
      · show hi - lo ≤ s.c - lo; omega
      · show o + lo * wd + (s.c - lo) * wd ≤ cs.size; omega
      · intro x hx; exact g6 x (List.mem_of_mem_drop (List.mem_of_mem_take hx))
      · intro i x hx j u hu
        have hx' : l[lo + i]? = some x := by
          rw [List.getElem?_take] at hx
          split at hx
          · rwa [List.getElem?_drop] at hx
          · cases hx
        have := g7 (lo + i) x hx' j u hu
        rw [← this]; congr 1; rw [Nat.add_mul]; omega
end vec

section
variable {P : Program} [Tab P] {N : Nat} {cx : Cx P N} {K : Hp} {ds : List Deferred} {k : List Item} {env : Env} {mem : List Ent} {rg : Rg} {H : List HE} {R : List (Nat × Oper)} {i : Nat} {o : Oper}
variable {α : Type} {s : Sl} {T T0 eT : TypeId} {wd : Nat} {enc : α → List Ch} {l : List α} {r : List Ent}
theorem MSat.vec {w : World} (x : MSat K (.vec s T0 wd enc l :: r) (vw w)) : VecAt s T0 wd enc l (vw w) := by
  obtain ⟨h1, _, _, _, _, s1, _, _, he, _⟩ := x.head
  exact VecAt.mono he s1
theorem MSat.vecK {w : World} (x : MSat K mem (vw w)) (v : VecAt s T0 wd enc l K) : VecAt s T0 wd enc l (vw w) := by
  obtain ⟨_, _, sK, _, _⟩ := x; exact v.mono sK
/-- A heap like another one, but for what is frozen. -/
def Unf (h' h : Hp) : Prop := ∀ b c T, h' b = some (.cells c T (0, 0)) → ∃ T' fz, h b = some (.cells c T' fz)
/-- What a slice reads as, frozen or not. -/
def VecRd {α : Type} (s : Sl) (T : TypeId) (wd : Nat) (enc : α → List Ch) (l : List α) (h : Hp) : Prop := (s.n = 0 ∧ l = []) ∨ ∃ h', Unf h' h ∧ VecAt s T wd enc l h'
theorem VecAt.rd {h : Hp} (v : VecAt s T0 wd enc l h) : VecRd s T0 wd enc l h := .inr ⟨h, fun _ _ _ e => ⟨_, _, e⟩, v⟩
theorem VecRd.len {h : Hp} (v : VecRd s T0 wd enc l h) : s.n = l.length := by
  rcases v with ⟨h1, rfl⟩ | ⟨_, _, v⟩
  · exact h1
  · exact v.len
theorem VecRd.mono {h h' : Hp} (v : VecRd s T0 wd enc l h) (u : Sub h h') : VecRd s T0 wd enc l h' := by
  rcases v with v | ⟨h1, x, v⟩
  · exact .inl v
  exact .inr ⟨h1, fun b c T e => by obtain ⟨T', fz, e⟩ := x b c T e; exact ⟨T', fz, u _ _ e⟩, v⟩
theorem VecRd.elem {h : Hp} (v : VecRd s T0 wd enc l h) {i : Nat} (hi : i < l.length) : ∃ b o cs T' fz, s.p = some ⟨b, o, none⟩ ∧ h b = some (.cells cs T' fz) ∧
    ∀ (i : Nat) (x : α), l[i]? = some x → ∀ (j : Nat) (v : Value), (flat (enc x))[j]? = some v → cs[o + i * wd + j]? = some v := by
  rcases v with ⟨_, rfl⟩ | ⟨h1, x, v⟩
  · exact absurd hi (Nat.not_lt_zero _)
  obtain ⟨b, o, cs, e1, e2, _, _, _, _, e7⟩ := v.elem hi
  obtain ⟨T', fz, e2⟩ := x _ _ _ e2
  exact ⟨b, o, cs, T', fz, e1, e2, e7⟩
/-- A slice that can be read: its own, or one of those that lie beside, or a part of such. -/
def Reads (K : Hp) (mem : List Ent) {α : Type} (s : Sl) (T0 : TypeId) (wd : Nat) (enc : α → List Ch) (l : List α) : Prop := ∀ w : World, MSat K mem (vw w) → VecRd s T0 wd enc l (vw w)
theorem Reads.own (h : Pick mem (.vec s T0 wd enc l) r) : Reads K mem s T0 wd enc l := fun _ hm => (MSat.pick h hm).vec.rd
theorem Reads.beside (h : VecRd s T0 wd enc l K) : Reads K mem s T0 wd enc l := fun _ hm => by obtain ⟨_, _, sK, _, _⟩ := hm; exact h.mono sK
theorem Reads.at_ (x : Reads K mem s T0 wd enc l) {w : World} (hm : MSat K mem (vw w)) : VecRd s T0 wd enc l (vw w) := x w hm
theorem Reads.len (x : Reads K mem s T0 wd enc l) {w : World} (hm : MSat K mem (vw w)) : s.n = l.length := (x w hm).len
/-- A nil slice. -/
theorem Reads.nil_ : Reads K mem ⟨none, 0, 0⟩ T0 wd enc [] := fun _ _ => VecAt.rd (.inl ⟨rfl, rfl, rfl, rfl⟩)
theorem Reads.skip {e : Ent} (x : Reads K mem s T0 wd enc l) : Reads K (e :: mem) s T0 wd enc l := fun w hm => x w hm.drop
/-- What a slice's reading tells of a part of it. -/
def Sub2 (wd : Nat) (s s' : Sl) (lo hi : Nat) : Prop := s'.n = hi - lo ∧ ∀ {α : Type} {T0 : TypeId} {enc : α → List Ch} {l : List α} {h : Hp}, VecAt s T0 wd enc l h → hi ≤ l.length → VecAt s' T0 wd enc ((l.drop lo).take (hi - lo)) h
theorem Reads.sub {s' : Sl} {lo hi : Nat} (x : Reads K mem s T0 wd enc l) (u : Sub2 wd s s' lo hi) (h : hi ≤ l.length) : Reads K mem s' T0 wd enc ((l.drop lo).take (hi - lo)) := fun w hm => by
  rcases x w hm with ⟨e1, rfl⟩ | ⟨h', y, v⟩
  · have : hi = 0 := by simpa using h
    exact .inl ⟨by rw [u.1]; omega, by simp⟩
  exact .inr ⟨h', y, u.2 v h⟩
theorem tab_slice {ti : TInf} (ht : Tab.ti P T = some ti) (hd : ti.d = .slice eT) : P.underlying T = some (.slice eT) := by
  have := (Tab.ok T ti ht).desc; rw [hd] at this; exact this
/-- len of a slice. -/
theorem sxo_len {x : Operand} {p : Option Addr} {n c : Nat} {ti : TInf} (ho : o.op = .call { callee := .builtin .len, args := #[x], argTypes := #[T] }) (hg : guardE rg.ops o env = some true) (hx : ev env x = some (.s (.o (.slice p n c))))
    (ht : Tab.ti P T = some ti) (hd : ti.d = .slice eT) (hv : Reads K mem ⟨p, n, c⟩ T0 wd enc l) (hdst : dstOk N o.dst = true) (hst : rg.flo.any (fun x => Nat.beq x.1 i) = false)
    (h : SXo cx K ds rg H R k (setE env o.dst (.s (.o (.int .i64 l.length)))) mem) (hH : ∀ x ∈ H, rg.fr P x.idx i = true → x.chk mem := by repeat (first | exact hh_nil | refine hh_free rfl ?_ | refine hh_chk ⟨_, _, _, (by first | exact .head | exact .tail .head | exact .tail (.tail .head) | exact .tail (.tail (.tail .head)) | exact .tail (.tail (.tail (.tail .head)))), (by rfl)⟩ ?_ | refine hh_chk trivial ?_)) : SXo cx K ds rg H ((i, o) :: R) k env mem :=
  sxo_val (v := .s (.o (.int .i64 l.length))) (pu := False) (chk := fun _ => False) hg (by rw [ho]; rfl) hdst (fun a w s => by
    have hrun : (underlying T).run P w = .ok (.slice eT) w := run_underlying (tab_slice ht hd) w
    have hn : n = l.length := (hv.at_ s.mem).len
    simp [execOp, ho, resolve, invoke, builtin, s.env.eval hx, Builtin.len_, hrun, goInt, hn]) (.still (by rw [ho]; rfl) hst) (fun h => h.elim) (fun _ h => h.elim) hH h
theorem sxo_lenV {x : Operand} {p : Option Addr} {n c : Nat} {ti : TInf} (ho : o.op = .call { callee := .builtin .len, args := #[x], argTypes := #[T] }) (hg : guardE rg.ops o env = some true) (hx : ev env x = some (.s (.o (.slice p n c))))
    (ht : Tab.ti P T = some ti) (hd : ti.d = .slice eT) (hdst : dstOk N o.dst = true) (hst : rg.flo.any (fun x => Nat.beq x.1 i) = false)
    (h : SXo cx K ds rg H R k (setE env o.dst (.s (.o (.int .i64 n)))) mem) (hH : ∀ x ∈ H, rg.fr P x.idx i = true → x.chk mem := by repeat (first | exact hh_nil | refine hh_free rfl ?_ | refine hh_chk ⟨_, _, _, (by first | exact .head | exact .tail .head | exact .tail (.tail .head) | exact .tail (.tail (.tail .head)) | exact .tail (.tail (.tail (.tail .head)))), (by rfl)⟩ ?_ | refine hh_chk trivial ?_)) : SXo cx K ds rg H ((i, o) :: R) k env mem :=
  sxo_val (v := .s (.o (.int .i64 n))) (pu := False) (chk := fun _ => False) hg (by rw [ho]; rfl) hdst (fun a w s => by
    have hrun : (underlying T).run P w = .ok (.slice eT) w := run_underlying (tab_slice ht hd) w
    simp [execOp, ho, resolve, invoke, builtin, s.env.eval hx, Builtin.len_, hrun, goInt]) (.still (by rw [ho]; rfl) hst) (fun h => h.elim) (fun _ h => h.elim) hH h
theorem sxo_lenS {x : Operand} {b : ByteArray} (ho : o.op = .call { callee := .builtin .len, args := #[x], argTypes := #[T] }) (hg : guardE rg.ops o env = some true) (hx : ev env x = some (.s (.o (.string b))))
    {ti : TInf} (ht : Tab.ti P T = some ti) (hd : ti.d = .str) (hdst : dstOk N o.dst = true) (hst : rg.flo.any (fun x => Nat.beq x.1 i) = false)
    (h : SXo cx K ds rg H R k (setE env o.dst (.s (.o (.int .i64 b.size)))) mem) (hH : ∀ x ∈ H, rg.fr P x.idx i = true → x.chk mem := by repeat (first | exact hh_nil | refine hh_free rfl ?_ | refine hh_chk ⟨_, _, _, (by first | exact .head | exact .tail .head | exact .tail (.tail .head) | exact .tail (.tail (.tail .head)) | exact .tail (.tail (.tail (.tail .head)))), (by rfl)⟩ ?_ | refine hh_chk trivial ?_)) : SXo cx K ds rg H ((i, o) :: R) k env mem :=
  sxo_val (v := .s (.o (.int .i64 b.size))) (pu := False) (chk := fun _ => False) hg (by rw [ho]; rfl) hdst (fun a w s => by
    have hu : P.underlying T = some .string := by have := (Tab.ok T ti ht).desc; rw [hd] at this; exact this
    have hrun : (underlying T).run P w = .ok .string w := run_underlying hu w
    simp [execOp, ho, resolve, invoke, builtin, s.env.eval hx, Builtin.len_, hrun, goInt]) (.still (by rw [ho]; rfl) hst) (fun h => h.elim) (fun _ h => h.elim) hH h
/-- A goal that no state meets. -/
theorem sxo_void (h : ∀ a w, ¬ St cx K ds env mem a w) : SXo cx K ds rg H R k env mem := fun _ a w _ s _ => (h a w s).elim
/-- Something that entries tell, beside all. -/
theorem MSat.note {e : Ent} {H : Hp} (x : MSat K mem H) (he : e.den emp) : MSat K (e :: mem) H := by
  obtain ⟨h, d, s1, s2, o⟩ := x
  exact MSat.mk (Dj.emp_left _) (Dj.emp_left _).symm d (sub_emp _) s2 s1 he o
theorem sxo_note {e : Ent} (he : e.den emp) (h : SXo cx K ds rg H R k env (e :: mem)) : SXo cx K ds rg H R k env mem := fun hR a w Hs s hH => by
  refine h hR a w Hs ⟨s.ds, s.size, s.env, s.mem.note he, s.os, s.out⟩ ?_
  exact hH
/-- The address of an element. -/
theorem sxo_indexAddr {x y : Operand} {p : Option Addr} {n c : Nat} {ik : IntKind} {j : Int} {ti te : TInf} (ho : o.op = .indexAddr T x y) (hg : guardE rg.ops o env = some true)
    (hx : ev env x = some (.s (.o (.slice p n c)))) (hy : ev env y = some (.s (.o (.int ik j)))) (ht : Tab.ti P T = some ti) (hd : ti.d = .slice eT) (he : Tab.ti P eT = some te)
    (hv : Reads K mem ⟨p, n, c⟩ T0 te.size enc l) (hj : 0 ≤ j ∧ j < l.length) (hdst : dstOk N o.dst = true)
    (h : ∀ b off, SXo cx K ds rg H R k (setE env o.dst (.s (.o (.pointer (some ⟨b, off, none⟩))))) (.el b off ⟨p, n, c⟩ j.toNat te.size :: mem)) (hH : ∀ x ∈ H, rg.fr P x.idx i = true → x.chk mem := by repeat (first | exact hh_nil | refine hh_free rfl ?_ | refine hh_chk ⟨_, _, _, (by first | exact .head | exact .tail .head | exact .tail (.tail .head) | exact .tail (.tail (.tail .head)) | exact .tail (.tail (.tail (.tail .head)))), (by rfl)⟩ ?_ | refine hh_chk trivial ?_)) :
    SXo cx K ds rg H ((i, o) :: R) k env mem := by
  by_cases hp : ∃ b o, p = some ⟨b, o, none⟩
  · obtain ⟨b, off, rfl⟩ := hp
    have hrun : ∀ a, ESat env a → n = l.length → ∀ w, (execOp a.eval o).run P w = .ok (.value (.pointer (some ⟨b, off + j.toNat * te.size, none⟩))) w := by
      intro a hs hn w
      have hu : (underlying T).run P w = .ok (.slice eT) w := run_underlying (tab_slice ht hd) w
      have hsz := (Tab.ok eT te he).size w
      simp [execOp, ho, hs.eval hx, hs.eval hy, Instr.indexAt, asIntOf, hu, hn, hj, hsz, Addr.add_plain]
    by_cases hn : n = l.length
    · exact sxo_val (v := .s (.o (.pointer (some ⟨b, off + j.toNat * te.size, none⟩)))) (pu := True) (chk := fun _ => False) hg (by rw [ho]; rfl) hdst (fun a w s => hrun a s.env hn w) (.pure trivial)
        (fun _ a hs w => hrun a hs hn w) (fun _ h => h.elim) hH (sxo_note (e := .el b (off + j.toNat * te.size) ⟨some ⟨b, off, none⟩, n, c⟩ j.toNat te.size) ⟨off, rfl, rfl⟩ (h b _))
    · exact sxo_void fun a w s => hn (hv.at_ s.mem).len
  · refine sxo_void fun a w s => hp ?_
    obtain ⟨b, off, _, _, _, e, _⟩ := (hv.at_ s.mem).elem (i := j.toNat) (by omega)
    exact ⟨b, off, e⟩
/-- A load of an element, or of a part of it. -/
theorem sxo_loadEl {x : Operand} {b off fo : Nat} {idx : Nat} {ti : TInf} {v : α → SV1} {r1 : List Ent} (ho : o.op = .load T x) (hg : guardE rg.ops o env = some true)
    (hx : ev env x = some (.s (.o (.pointer (some ⟨b, off + fo, none⟩))))) (hel : Pick mem (.el b off s idx wd) r1) (hv : Reads K mem s T0 wd enc l) (ht : Tab.ti P T = some ti) (hi : idx < l.length) (hp : ∀ x, partV ti (enc x) fo = some (v x))
    (hd : dstOk N o.dst = true) (hs : rg.flo.any (fun x => Nat.beq x.1 i) = false)
    (h : ∀ x, l[idx]? = some x → SXo cx K ds rg H R k (setE env o.dst (.s (v x))) mem) (hH : ∀ x ∈ H, rg.fr P x.idx i = true → x.chk mem := by repeat (first | exact hh_nil | refine hh_free rfl ?_ | refine hh_chk ⟨_, _, _, (by first | exact .head | exact .tail .head | exact .tail (.tail .head) | exact .tail (.tail (.tail .head)) | exact .tail (.tail (.tail (.tail .head)))), (by rfl)⟩ ?_ | refine hh_chk trivial ?_)) : SXo cx K ds rg H ((i, o) :: R) k env mem := by
  have hx0 : l[idx]? = some l[idx] := List.getElem?_eq_getElem hi
  refine sxo_val (v := .s (v l[idx])) (pu := False) (chk := fun _ => False) hg (by rw [ho]; rfl) hd (fun a w st => ?_) (.still (by rw [ho]; rfl) hs) (fun h => h.elim) (fun _ h => h.elim) hH (h _ hx0)
  obtain ⟨b', o', cs, T', fz, e1, e2, e7⟩ := (hv.at_ st.mem).elem hi
  obtain ⟨h1, _, _, _, _, _, _, _, ⟨o2, f1, f2⟩, _⟩ := (MSat.pick hel st.mem).head
  rw [e1] at f1
  cases f1
  subst f2
  have := run_load_at (Tab.ok T ti ht) (hp l[idx]) (o1 := o' + idx * wd) (fun j u hu => e7 idx _ hx0 j u hu) e2
  simp [execOp, ho, st.env.eval hx, this]
theorem sxo_loadEl0 {x : Operand} {b off : Nat} {idx : Nat} {ti : TInf} {v : α → SV1} {r1 : List Ent} (ho : o.op = .load T x) (hg : guardE rg.ops o env = some true)
    (hx : ev env x = some (.s (.o (.pointer (some ⟨b, off, none⟩))))) (hel : Pick mem (.el b off s idx wd) r1) (hv : Reads K mem s T0 wd enc l) (ht : Tab.ti P T = some ti) (hi : idx < l.length) (hp : ∀ x, partV ti (enc x) 0 = some (v x))
    (hd : dstOk N o.dst = true) (hs : rg.flo.any (fun x => Nat.beq x.1 i) = false)
    (h : ∀ x, l[idx]? = some x → SXo cx K ds rg H R k (setE env o.dst (.s (v x))) mem) (hH : ∀ x ∈ H, rg.fr P x.idx i = true → x.chk mem := by repeat (first | exact hh_nil | refine hh_free rfl ?_ | refine hh_chk ⟨_, _, _, (by first | exact .head | exact .tail .head | exact .tail (.tail .head) | exact .tail (.tail (.tail .head)) | exact .tail (.tail (.tail (.tail .head)))), (by rfl)⟩ ?_ | refine hh_chk trivial ?_)) : SXo cx K ds rg H ((i, o) :: R) k env mem :=
  sxo_loadEl (fo := 0) ho hg hx hel hv ht hi hp hd hs h hH
/-- A store into an element of one's own. -/
theorem sxo_storeEl {x y : Operand} {b off fo : Nat} {idx : Nat} {ti : TInf} {v : SV1} {r1 : List Ent} (z : α → α) (ho : o.op = .store T x y) (hg : guardE rg.ops o env = some true)
    (hx : ev env x = some (.s (.o (.pointer (some ⟨b, off + fo, none⟩))))) (hy : ev env y = some (.s v)) (hel : Pick mem (.el b off s idx wd) r1) (hv : Pick mem (.vec s T0 wd enc l) r) (ht : Tab.ti P T = some ti) (hi : idx < l.length)
    (hz : ∀ x, putCh (enc x) fo ti.size v.ch = some (enc (z x))) (h1 : oneCh v.ch = true)
    (hd : dstOk N o.dst = true) (hl : rg.lt P i = false)
    (h : ∀ x, l[idx]? = some x → SXo cx K ds rg H R k (setE env o.dst (.s (.o undef))) (.vec s T0 wd enc (l.set idx (z x)) :: r)) (hH : ∀ x ∈ H, rg.fr P x.idx i = true → ∀ x0, x.chk (.vec s T0 wd enc (l.set idx x0) :: r) := by repeat (first | exact hh_nil | refine hh_free rfl ?_ | refine hh_chk ⟨_, _, _, (by first | exact .head | exact .tail .head | exact .tail (.tail .head) | exact .tail (.tail (.tail .head)) | exact .tail (.tail (.tail (.tail .head)))), (by rfl)⟩ ?_ | refine hh_chk trivial ?_)) :
    SXo cx K ds rg H ((i, o) :: R) k env mem := by
  have hx0 : l[idx]? = some l[idx] := List.getElem?_eq_getElem hi
  refine sxo_act hl hg (by rw [ho]; rfl) fun a w st => ?_
  have hm := MSat.pick hv st.mem
  obtain ⟨h1', _, _, _, _, _, _, _, ⟨o2, f1, f2⟩, _⟩ := (MSat.pick hel st.mem).head
  obtain ⟨b', o', cs, e1, e2, e3, e4, e5, e6, e7⟩ := hm.vec.elem hi
  have hbo : b' = b ∧ o' = o2 := by rw [e1] at f1; simpa using f1
  rw [hbo.1] at e1 e2
  rw [← hbo.2] at f2
  obtain ⟨pp, mm, ss, g1, g2, g3, g4, g5⟩ := putCh_spec (hz l[idx])
  have hadd : ∀ a b : List Ch, flatW (a ++ b) = flatW a + flatW b := by
    intro a b; rw [← flat_length, ← flat_length, ← flat_length, flat_append]; simp
  have hw0 : flatW (enc l[idx]) = wd := e6 _ (List.getElem_mem hi)
  have hfit : fo + ti.size ≤ wd := by rw [← hw0, g1, hadd, hadd]; omega
  have hmul : idx * wd + wd ≤ s.c * wd := by
    have : (idx + 1) * wd ≤ s.c * wd := Nat.mul_le_mul_right _ (by omega)
    rw [Nat.add_mul, Nat.one_mul] at this; exact this
  have hsz : off + fo + ti.size ≤ cs.size := by omega
  have hrun := run_store_at (Tab.ok T ti ht) g5 h1 e2 hsz
  have hex : (execOp a.eval o).run P w = .ok .skip (w.setRow b (spliceA cs (off + fo) (flat v.ch))) := by simp [execOp, ho, st.env.eval hx, st.env.eval hy, hrun]
  unfold OW
  rw [hex]
  refine ⟨_, _, _, ⟨by rw [Act.put_def]; exact st.ds, by rw [Act.put_size]; exact st.size, st.env.put st.size hd (.s (.o undef)), ?_, st.os, st.out⟩, fun x hx hf => hH x hx hf _, h _ hx0⟩
  have hu : (flat v.ch).length = ti.size := by rw [flat_length, g5]
  have hwz : flatW (enc (z l[idx])) = wd := by rw [g2, hadd, hadd, ← hw0, g1, hadd, hadd]; omega
  rw [vw_setRow e2]
  refine hm.turn (fun h1 he => ?_) (fun h1 hs1 he => ?_)
  · obtain ⟨b2, _, _, k1, k2, _⟩ := VecAt.elem he hi
    rw [e1] at k1; cases k1
    simp [k2]
  · have hlen : (l.set idx (z l[idx])).length = l.length := List.length_set
    refine .inr ⟨b, o', _, e1, by rw [hlen]; exact e4, e5, put_self _ _ _, by rw [spliceA_size (by rw [hu]; exact hsz)]; exact e3, ?_, ?_⟩
    · intro x hx
      rcases List.mem_or_eq_of_mem_set hx with hx | rfl
      · exact e6 x hx
      · exact hwz
    · intro j x hxj q u hq
      have hqlt : q < wd := by
        have h3 := (List.getElem?_eq_some_iff.1 hq).1
        rw [flat_length] at h3
        by_cases hc : idx = j
        · subst hc
          rw [List.getElem?_set_self hi] at hxj; cases hxj
          omega
        · rw [List.getElem?_set_ne hc] at hxj
          have := e6 x (List.mem_of_getElem? hxj); omega
      by_cases hc : idx = j
      · subst hc
        rw [List.getElem?_set_self hi] at hxj; cases hxj
        rw [g2, flat_append, flat_append] at hq
        have hpl : (flat pp).length = fo := by rw [flat_length, g3]
        by_cases hq1 : q < fo
        · rw [List.getElem?_append_left (by omega)] at hq
          rw [spliceA_out (by rw [hu]; exact hsz) (by left; omega)]
          refine e7 idx _ hx0 q u ?_
          rw [g1, flat_append, List.getElem?_append_left (by omega)]; exact hq
        · rw [List.getElem?_append_right (by omega), hpl] at hq
          by_cases hq2 : q < fo + ti.size
          · rw [List.getElem?_append_left (by omega)] at hq
            have := spliceA_in (X := cs) (at_ := off + fo) (vs := flat v.ch) (by rw [hu]; exact hsz) (j := q - fo) (by omega)
            rw [← hq, ← this]; congr 1; omega
          · rw [List.getElem?_append_right (by omega), hu] at hq
            rw [spliceA_out (by rw [hu]; exact hsz) (by right; omega)]
            refine e7 idx _ hx0 q u ?_
            rw [g1, flat_append, flat_append, List.getElem?_append_right (by omega), hpl, List.getElem?_append_right (by rw [flat_length, g4]; omega), flat_length, g4]
            exact hq
      · rw [List.getElem?_set_ne hc] at hxj
        have hcell := e7 j x hxj q u hq
        rw [spliceA_out (by rw [hu]; exact hsz) ?_]
        · exact hcell
        · rcases Nat.lt_or_ge j idx with hlt | hge
          · left
            have : (j + 1) * wd ≤ idx * wd := Nat.mul_le_mul_right _ hlt
            rw [Nat.add_mul, Nat.one_mul] at this
            omega
          · right
            have : (idx + 1) * wd ≤ j * wd := Nat.mul_le_mul_right _ (by omega)
            rw [Nat.add_mul, Nat.one_mul] at this
            omega
end
end Go.SX
