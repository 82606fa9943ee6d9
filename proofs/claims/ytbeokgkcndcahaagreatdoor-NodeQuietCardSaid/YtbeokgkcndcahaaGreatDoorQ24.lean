/-
  What a list of steps that is handed in reads as.
  The law of the quiet node, out of its walk: for every list of steps the call returns true, and the list reads as it did.
-/
import Derived.Test.YtbeokgkcndcahaaGreatDoorQ23
import Derived.Test.YtbeokgkcndcahaaGreatDoorRows
import Derived.KernelRfl
import Derived.Test.YtbeokgkcndcahaaGreatDoorQ03
import Derived.Carry
import Derived.ProofKit
import Derived.OpenShut
import Derived.Deep.DeepHandedRow
import Derived.Lib.LaidTab
set_option linter.all false
namespace Go.SX
open Go.Proofs
set_option maxRecDepth 20000
section
variable {H : Type} {enc : TypeId × Value → H} {w : World}
theorem cells3 : Tryz.prog.cellsOf 3 = 1 := by kernel_rfl
theorem cells43 : Tryz.prog.cellsOf 43 = 1 := by kernel_rfl
theorem cells4 : Tryz.prog.cellsOf 4 = 1 := by kernel_rfl
theorem cells36 : Tryz.prog.cellsOf 36 = 32 := by kernel_rfl
theorem cells5 : Tryz.prog.cellsOf 5 = 1 := by kernel_rfl
theorem cells37 : Tryz.prog.cellsOf 37 = 1 := by kernel_rfl
theorem cells38 : Tryz.prog.cellsOf 38 = 1 := by kernel_rfl
theorem cells39 : Tryz.prog.cellsOf 39 = 1 := by kernel_rfl
theorem cells40 : Tryz.prog.cellsOf 40 = 1 := by kernel_rfl
theorem cells42 : Tryz.prog.cellsOf 42 = 39 := by kernel_rfl
theorem cells101 : Tryz.prog.cellsOf 101 = 4 := by kernel_rfl
theorem cells45 : Tryz.prog.cellsOf 45 = 79 := by kernel_rfl
theorem bytesB : 0 < Tryz.prog.bytesOf 5 := of_decide_eq_true (by kernel_rfl)
theorem bytesI : 0 < Tryz.prog.bytesOf 3 := of_decide_eq_true (by kernel_rfl)
theorem bytesD : 0 < Tryz.prog.bytesOf 36 := of_decide_eq_true (by kernel_rfl)
theorem bytesM : 0 < Tryz.prog.bytesOf 101 := of_decide_eq_true (by kernel_rfl)
theorem bytesS : 0 < Tryz.prog.bytesOf 45 := of_decide_eq_true (by kernel_rfl)
theorem Rdt.fld {P : Program} {t : TypeId} {fs : Array Field} {cs : List Value} {d : DataW H} (h : Rdt enc P w t cs d) (hu : P.underlying t = some (.struct fs)) (i o n : Nat) {T : TypeId} (hn : P.cellsOf T = n) (hi : (fs[i]?).map (fun f => (f.type, f.offset)) = some (T, o)) :
    ∃ d', Rdt enc P w T ((cs.drop o).take n) d' := by
  obtain ⟨f, hf, e⟩ := Option.map_eq_some_iff.1 hi
  cases e
  subst hn
  exact (h.struct hu).2 i f hf
theorem rd_int {cs : List Value} {d : DataW H} (h : Rdt enc Tryz.prog w 3 cs d) : ∃ n, cs = [.int .i64 n] := by
  obtain ⟨n, h, _⟩ := h.int Tryz.underlying3; exact ⟨n, h⟩
theorem rd_u64 {cs : List Value} {d : DataW H} (h : Rdt enc Tryz.prog w 43 cs d) : ∃ n, cs = [.int .u64 n] := by
  obtain ⟨n, h, _⟩ := h.int Tryz.underlying43; exact ⟨n, h⟩
theorem rd_dig {cs : List Value} {d : DataW H} (h : Rdt enc Tryz.prog w 36 cs d) : ∃ D : Dig, cs = D.vals := h.dig Tryz.underlying36 Tryz.underlying5 cells5 cells36
theorem rd_mem {cs : List Value} {d : DataW H} (h : Rdt enc Tryz.prog w 101 cs d) : ∃ x : Member, cs = flat (encM x) ∧ True := by
  have hl := (h.struct Tryz.underlying101).1
  rw [cells101] at hl
  obtain ⟨_, h0⟩ := h.fld Tryz.underlying101 0 0 1 cells3 rfl
  obtain ⟨_, h1⟩ := h.fld Tryz.underlying101 1 1 1 cells3 rfl
  obtain ⟨_, h2⟩ := h.fld Tryz.underlying101 2 2 1 cells3 rfl
  obtain ⟨_, h3⟩ := h.fld Tryz.underlying101 3 3 1 cells3 rfl
  obtain ⟨n0, e0⟩ := rd_int h0
  obtain ⟨n1, e1⟩ := rd_int h1
  obtain ⟨n2, e2⟩ := rd_int h2
  obtain ⟨n3, e3⟩ := rd_int h3
  have e : cs = (cs.drop 0).take 1 ++ ((cs.drop 1).take 1 ++ ((cs.drop 2).take 1 ++ ((cs.drop 3).take 1 ++ cs.drop 4))) := by
    rw [← cut 3 1, ← cut 2 1, ← cut 1 1, ← cut 0 1]; rfl
  refine ⟨⟨n0, n1, n2, n3⟩, e.trans ?_, trivial⟩
  rw [e0, e1, e2, e3, List.drop_eq_nil_of_le (by omega)]
  rfl
theorem rd_ints {cs : List Value} {d : DataW H} (h : Rdt enc Tryz.prog w 37 cs d) : ∃ (s : Sl) (l : List Int), cs = [s.v] ∧ VecRd s 3 1 encI l (vw w) ∧ l.length ≤ reachBytes := by
  obtain ⟨s, l, h1, h2, h3, _⟩ := h.slice Tryz.underlying37 3 encI (fun _ => True) cells3 (by decide) bytesI (fun cs d hd => by obtain ⟨n, e⟩ := rd_int hd; exact ⟨n, e, trivial⟩)
  exact ⟨s, l, h1, h2, h3⟩
theorem rd_bytes {cs : List Value} {d : DataW H} (h : Rdt enc Tryz.prog w 38 cs d) : ∃ s : Sl, cs = [s.v] := by
  obtain ⟨s, l, h1, _⟩ := h.slice (α := Value) Tryz.underlying38 5 (fun v => [.c v]) (fun _ => True) cells5 (by decide) bytesB (fun cs d hd => by obtain ⟨n, e, _⟩ := hd.int Tryz.underlying5; exact ⟨_, e, trivial⟩)
  exact ⟨s, h1⟩
theorem rd_digs {cs : List Value} {d : DataW H} (h : Rdt enc Tryz.prog w 39 cs d) : ∃ s : Sl, cs = [s.v] := by
  obtain ⟨s, l, h1, _⟩ := h.slice (α := Dig) Tryz.underlying39 36 (fun v => [.d v]) (fun _ => True) cells36 (by decide) bytesD (fun cs d hd => by obtain ⟨n, e⟩ := rd_dig hd; exact ⟨n, by simp [flat, Ch.vals, e], trivial⟩)
  exact ⟨s, h1⟩
theorem rd_mems {cs : List Value} {d : DataW H} (h : Rdt enc Tryz.prog w 40 cs d) : ∃ (s : Sl) (l : List Member), cs = [s.v] ∧ VecRd s 101 4 encM l (vw w) ∧ l.length ≤ reachBytes := by
  obtain ⟨s, l, h1, h2, h3, _⟩ := h.slice Tryz.underlying40 101 encM (fun _ => True) cells101 (by decide) bytesM (fun cs d hd => rd_mem hd)
  exact ⟨s, l, h1, h2, h3⟩
theorem rd_msg {cs : List Value} {d : DataW H} (h : Rdt enc Tryz.prog w 42 cs d) : ∃ m : Msg, cs = flat (encMsg m) ∧ ∃ li lm, VecRd m.ids 3 1 encI li (vw w) ∧ VecRd m.mems 101 4 encM lm (vw w) ∧ li.length ≤ reachBytes ∧ lm.length ≤ reachBytes := by
  have hl := (h.struct Tryz.underlying42).1
  rw [cells42] at hl
  obtain ⟨_, h0⟩ := h.fld Tryz.underlying42 0 0 1 cells3 rfl
  obtain ⟨_, h1⟩ := h.fld Tryz.underlying42 1 1 32 cells36 rfl
  obtain ⟨_, h2⟩ := h.fld Tryz.underlying42 2 33 1 cells3 rfl
  obtain ⟨_, h3⟩ := h.fld Tryz.underlying42 3 34 1 cells37 rfl
  obtain ⟨_, h4⟩ := h.fld Tryz.underlying42 4 35 1 cells38 rfl
  obtain ⟨_, h5⟩ := h.fld Tryz.underlying42 5 36 1 cells39 rfl
  obtain ⟨_, h6⟩ := h.fld Tryz.underlying42 6 37 1 cells40 rfl
  obtain ⟨_, h7⟩ := h.fld Tryz.underlying42 7 38 1 cells4 rfl
  obtain ⟨n0, e0⟩ := rd_int h0
  obtain ⟨n1, e1⟩ := rd_dig h1
  obtain ⟨n2, e2⟩ := rd_int h2
  obtain ⟨n3, li, e3, v3, l3⟩ := rd_ints h3
  obtain ⟨n4, e4⟩ := rd_bytes h4
  obtain ⟨n5, e5⟩ := rd_digs h5
  obtain ⟨n6, lm, e6, v6, l6⟩ := rd_mems h6
  obtain ⟨n7, e7⟩ := h7.bool Tryz.underlying4
  have e : cs = (cs.drop 0).take 1 ++ ((cs.drop 1).take 32 ++ ((cs.drop 33).take 1 ++ ((cs.drop 34).take 1 ++ ((cs.drop 35).take 1 ++ ((cs.drop 36).take 1 ++ ((cs.drop 37).take 1 ++ ((cs.drop 38).take 1 ++ cs.drop 39))))))) := by
    rw [← cut 38 1, ← cut 37 1, ← cut 36 1, ← cut 35 1, ← cut 34 1, ← cut 33 1, ← cut 1 32, ← cut 0 1]; rfl
  refine ⟨⟨n0, n1, n2, n3, n4, n5, n6, n7⟩, e.trans ?_, li, lm, v3, v6, l3, l6⟩
  rw [e0, e1, e2, e3, e4, e5, e6, e7, List.drop_eq_nil_of_le (by omega)]
  simp [flat, Ch.vals]
theorem rd_step {cs : List Value} {d : DataW H} (h : Rdt enc Tryz.prog w 45 cs d) : ∃ x : Stp, cs = flat (encStp x) ∧ StpIn (vw w) x := by
  have hl := (h.struct Tryz.underlying45).1
  rw [cells45] at hl
  obtain ⟨_, h0⟩ := h.fld Tryz.underlying45 0 0 1 cells3 rfl
  obtain ⟨_, h1⟩ := h.fld Tryz.underlying45 1 1 1 cells3 rfl
  obtain ⟨_, h2⟩ := h.fld Tryz.underlying45 2 2 1 cells3 rfl
  obtain ⟨_, h3⟩ := h.fld Tryz.underlying45 3 3 1 cells3 rfl
  obtain ⟨_, h4⟩ := h.fld Tryz.underlying45 4 4 1 cells3 rfl
  obtain ⟨_, h5⟩ := h.fld Tryz.underlying45 5 5 1 cells3 rfl
  obtain ⟨_, h6⟩ := h.fld Tryz.underlying45 6 6 39 cells42 rfl
  obtain ⟨_, h7⟩ := h.fld Tryz.underlying45 7 45 32 cells36 rfl
  obtain ⟨_, h8⟩ := h.fld Tryz.underlying45 8 77 1 cells38 rfl
  obtain ⟨_, h9⟩ := h.fld Tryz.underlying45 9 78 1 cells43 rfl
  obtain ⟨n0, e0⟩ := rd_int h0
  obtain ⟨n1, e1⟩ := rd_int h1
  obtain ⟨n2, e2⟩ := rd_int h2
  obtain ⟨n3, e3⟩ := rd_int h3
  obtain ⟨n4, e4⟩ := rd_int h4
  obtain ⟨n5, e5⟩ := rd_int h5
  obtain ⟨n6, e6, li, lm, v3, v6, l3, l6⟩ := rd_msg h6
  obtain ⟨n7, e7⟩ := rd_dig h7
  obtain ⟨n8, e8⟩ := rd_bytes h8
  obtain ⟨n9, e9⟩ := rd_u64 h9
  have e : cs = (cs.drop 0).take 1 ++ ((cs.drop 1).take 1 ++ ((cs.drop 2).take 1 ++ ((cs.drop 3).take 1 ++ ((cs.drop 4).take 1 ++ ((cs.drop 5).take 1 ++ ((cs.drop 6).take 39 ++ ((cs.drop 45).take 32 ++ ((cs.drop 77).take 1 ++ ((cs.drop 78).take 1 ++ cs.drop 79))))))))) := by
    rw [← cut 78 1, ← cut 77 1, ← cut 45 32, ← cut 6 39, ← cut 5 1, ← cut 4 1, ← cut 3 1, ← cut 2 1, ← cut 1 1, ← cut 0 1]; rfl
  have hr : reachBytes < 4611686018427387904 := by decide
  refine ⟨⟨n0, n1, n2, n3, n4, n5, n6, n7, n8, n9⟩, e.trans ?_, li, lm, v3, v6, by omega, by omega⟩
  rw [e0, e1, e2, e3, e4, e5, e6, e7, e8, e9, List.drop_eq_nil_of_le (by omega)]
  simp [flat, Ch.vals]
theorem rd_steps {cs : List Value} {d : DataW H} (h : Rdt enc Tryz.prog w 22 cs d) :
    ∃ (s : Sl) (l : List Stp), cs = [s.v] ∧ VecRd s 45 79 encStp l (vw w) ∧ l.length < 4611686018427387904 ∧ ∀ x ∈ l, StpIn (vw w) x := by
  obtain ⟨s, l, h1, h2, h3, h4⟩ := h.slice Tryz.underlying22 45 encStp (StpIn (vw w)) cells45 (by decide) bytesS (fun cs d hd => rd_step hd)
  have hr : reachBytes < 4611686018427387904 := by decide
  exact ⟨s, l, h1, h2, by omega, h4⟩
end
end Go.SX

set_option maxRecDepth 100000
namespace Go.Proofs.YtbeokgkcndcahaaGreatDoor.quiet
open Go.ChangeShapes Go.WideShapes Go.ChangeAt Go.RowKit Go.SX
/-- What a walk leaves: all that was there, and more. -/
theorem kept_of_sub {W W' : World} (h : SX.Sub (vw W) (vw W')) (ho : W'.os = W.os) (hu : W'.output = W.output) (may : MemPlace → Prop) : W.keptBut W' may := by
  refine ⟨ho, hu, fun i hi => ?_⟩
  have e : W.heap[i]? = some W.heap[i] := by simp [hi]
  have e' : W'.heap[i]? = some W.heap[i] := h i _ e
  rw [e, e']
  generalize W.heap[i] = o
  cases o with
  | cells c t fr => exact ⟨rfl, rfl, rfl, fun _ _ => rfl⟩
  | map es cl => exact .inr ⟨rfl, rfl⟩
  | _ => rfl
theorem heap_of_sub {W W' : World} (h : SX.Sub (vw W) (vw W')) {b : Nat} (hb : b < W.heap.size) : W'.heap[b]? = W.heap[b]? := by
  have e : W.heap[b]? = some W.heap[b] := by simp [hb]
  rw [e]; exact h b _ e
section
variable {H : Type} {enc : TypeId × Value → H} {P : Program}
/-- The specification's end, of a walk that leaves all that was there as it was. -/
theorem post_of_sub {f : Func} {s : ChangeSpec} {apart fresh handsOn again : Bool} {W W' : World} {args : Array Value} {v : Value} {ds gs : List (DataW H)} {before pa pv : List MemPlace}
    (hW : DataW.Whole enc P f.params.toList s.vars apart W args.toList ds gs before)
    (hres : ∀ (b : Nat) (sp : Nat → Bool) (hd : Bool), DataW.TrodAll enc P W' b sp hd f.resultTypes.toList (v.resultList f.resultTypes.size) (s.fn H (ds ++ gs)).results [])
    (hargs : ∀ sp : Nat → Bool, (∀ p ∈ before, sp p.block = true) → DataW.TrodAll enc P W' 0 sp true f.params.toList args.toList (s.fn H (ds ++ gs)).args pa)
    (hvars : ∀ sp : Nat → Bool, (∀ p ∈ before, sp p.block = true) → DataW.TrodVars enc P W' sp s.vars (s.fn H (ds ++ gs)).vars pv)
    (hps : before = pa ++ pv) (hs : SX.Sub (vw W) (vw W')) (ho : W'.os = W.os) (hu : W'.output = W.output)
    (hok : ∀ (j : Nat) (t : TypeId) (r : Value), f.resultTypes[j]? = some t → (v.resultList f.resultTypes.size)[j]? = some r → Value.okWide P W' .any 0 t r) :
    s.post enc P f apart fresh handsOn again W args v W' := by
  have hlt := hW.lt
  have hold : ∀ p ∈ before, (fun b => decide (b < W.heap.size)) p.block = true := fun p hp => by simpa using hlt p hp
  refine ⟨ds, gs, before, [], pa, pv, hW, hres _ _ _, hargs _ hold, hvars _ hold, kept_of_sub hs ho hu _, fun _ => ?_⟩
  obtain ⟨_, _, _, _, _, hz, hn⟩ := hW
  refine ⟨hok, _, _, ([] ++ pa) ++ pv, ⟨[] ++ pa, pv, trodAll_append (hargs _ (fun _ _ => rfl)) (hres _ _ _), hvars _ (fun _ _ => rfl), rfl, ?_, ?_⟩, ?_⟩
  · intro b off hp
    have hp' : MemPlace.cell b off ∈ before := by rw [hps]; simpa using hp
    have e : W'.frozen? ⟨b, off, none⟩ = W.frozen? ⟨b, off, none⟩ := by
      simp only [World.frozen?]
      have e2 := heap_of_sub hs (hlt _ hp')
      simp only [MemPlace.block] at e2
      rw [e2]
    rw [e]
    exact hz b off hp'
  · intro ha
    have := hn ha
    rw [hps] at this
    simpa using this
  · intro p hp _
    rw [hps]
    simpa using hp
end
/-- What the walk gives, for every argument. -/
theorem contract (H : Type) (enc : TypeId × Value → H) (W : World) (base : Nat) (args : Array Value) (ds gs : List (DataW H)) (before : List MemPlace)
    (hval : ∀ (j : Nat) t v, Tryz.f3.params[j]? = some t → args[j]? = some v → Value.okWide Tryz.prog W .any base t v)
    (hW : DataW.Whole enc Tryz.prog Tryz.f3.params.toList Rows.nodeQuietSpec.vars false W args.toList ds gs before)
    (hz : (DataW.weightsEach Tryz.prog (Tryz.f3.params.toList ++ []) (ds ++ gs)).all (· ≤ reachBytes) = true) :
    Calls Tryz.prog 3 args W fun e W' => ∃ v, e = .returned v ∧ Rows.nodeQuietSpec.post enc Tryz.prog Tryz.f3 false true false false W args v W' := by
  have hW' := hW
  obtain ⟨p, q, hA0, hV, rfl, hfz, hnd⟩ := hW
  have hA : DataW.TrodAll enc Tryz.prog W 0 (fun _ => true) true Tryz.f3.params.toList args.toList ds p := hA0
  rw [Tryz.params3] at hA hz hval
  obtain ⟨v0, vs0, d0, ds0, p0, q0, hargs, rfl, rfl, h0, r0⟩ := trodAll_cons hA
  obtain ⟨rfl, rfl, rfl⟩ := trodAll_nil r0
  obtain rfl : args = #[v0] := by cases args; simp_all
  obtain ⟨rfl, rfl⟩ := trodVars_none hV
  clear hA0
  simp only [List.append_nil] at hW'
  have hrd : SX.Rdt enc Tryz.prog W 22 v0.cells.toList d0 := by
    obtain ⟨fuel, h⟩ := h0
    refine ⟨⟨fuel, _, h⟩, fun m hm => ?_⟩
    have := List.all_eq_true.1 hz m (by simp [DataW.weightsEach]; exact hm)
    simpa using this
  obtain ⟨⟨p, n, c⟩, l, e1, hv, hl, hx⟩ := SX.rd_steps hrd
  have hv0 : v0 = .slice p n c := by
    have h1 := hval 0 22 v0 rfl rfl
    simp only [Value.okWide, Cell.okWide, Cell.ok, Tryz.underlying22] at h1
    cases v0 with
    | slice p' n' c' => simpa [Value.cells] using e1
    | _ => exact h1.elim
  subst hv0
  have hm : SX.MSat (vw W) [] (vw W) := ⟨SX.emp, fun b x y _ h => by simp [SX.emp] at h, SX.Sub.refl _, SX.sub_emp _, trivial⟩
  refine ((SX.Quiet_ok (vw W) p n c l hl hv hx).run W hm).mono ?_
  rintro e W' ⟨v, m, rfl, ⟨rfl, rfl⟩, ⟨_, _, hs, _, _⟩, ho, hu⟩
  have hbefore := hW'.lt
  refine ⟨_, rfl, post_of_sub (pa := p0) (pv := []) hW' (fun _ _ _ => trodAll_cons_mk (shut_bool Tryz.underlying4 _) trodAll_mk0) (fun sp hsp => ?_) (fun _ _ => rfl) (by simp) hs ho hu (ok_one (by kernel_rfl) rfl (okWide_bool_mk Tryz.underlying4 _))⟩
  rw [Tryz.params3]
  have ht := WideElems.Trod_stays laidOut (by kernel_rfl) (of_decide_eq_true (by kernel_rfl)) h0 (W' := W') (sp' := sp) (fun x hx => ?_) (fun x hx => hsp x hx)
  · exact trodAll_mk1 ht
  · have e2 := heap_of_sub hs (hbefore x hx)
    cases x with
    | cell b o => exact World.cell?_of_block e2
    | map b => exact e2
end Go.Proofs.YtbeokgkcndcahaaGreatDoor.quiet
