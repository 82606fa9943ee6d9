/-
  Ranges over a map: the order is open.
  Calls of function values, and ranges over a function.
  The table of types of the program.
  What a sequence (iter.Seq) yields, in whatever hands.
-/
import Derived.Test.YtbeokgkcndcahaaGreatDoorQ07
import Derived.Laws.IdiomRangeMap
import Derived.Test.YtbeokgkcndcahaaGreatDoorQ05
import Derived.RangeFuncLeaves
import Derived.RangeFuncRecord
import Derived.Test.YtbeokgkcndcahaaGreatDoorProg
set_option linter.all false
namespace Go.SX

section
variable {κ ν : Type} {ek : κ → SV1} {ev' : ν → SV1}
/-- A map that is ranged over: which entries have come, by their places. -/
def ItAt (b : Nat) (ek : κ → SV1) (ev' : ν → SV1) (m : List (κ × ν)) (seen : List Nat) (r : Nat) (h : Hp) : Prop :=
  ∃ es clock, h b = some (.map es clock) ∧ es.toList.map (fun e => (e.key, e.val)) = m.map (fun x => ((ek x.1).val, (ev' x.2).val)) ∧ (es.toList.map (·.born)).Nodup ∧ (∀ e ∈ es.toList, e.born < clock) ∧
    ∃ sn : Array Nat, h r = some (.mapIter (some b) clock sn clock) ∧ seen.Nodup ∧ (∀ j ∈ seen, j < m.length) ∧ sn.toList.map some = seen.map fun j => es.toList[j]?.map (·.born)
def itE (r b : Nat) (ek : κ → SV1) (ev' : ν → SV1) (m : List (κ × ν)) (seen : List Nat) : Ent := .abs r (ItAt b ek ev' m seen)
end
theorem seen_contains {es : List MapEntry} {sn seen : List Nat} (hn : (es.map (·.born)).Nodup) (hs : sn.map some = seen.map fun j => es[j]?.map (·.born)) {j : Nat} {e : MapEntry} (he : es[j]? = some e) : e.born ∈ sn ↔ j ∈ seen := by
  have hb : ∀ i : Nat, (es.map fun e : MapEntry => e.born)[i]? = es[i]?.map fun e : MapEntry => e.born := fun i => by simp
  constructor
  · intro h
    have : some e.born ∈ sn.map some := List.mem_map.2 ⟨_, h, rfl⟩
    rw [hs] at this
    obtain ⟨i, hi, hie⟩ := List.mem_map.1 this
    have h1 : (es.map (·.born))[i]? = some e.born := by rw [hb]; exact hie
    have h2 : (es.map (·.born))[j]? = some e.born := by rw [hb, he]; rfl
    have hij := (List.getElem?_inj (List.getElem?_eq_some_iff.1 h1).1 hn).1 (h1.trans h2.symm)
    exact hij ▸ hi
  · intro h
    have : es[j]?.map (·.born) ∈ seen.map fun j => es[j]?.map (·.born) := List.mem_map.2 ⟨j, h, rfl⟩
    rw [← hs, he] at this
    obtain ⟨x, hx, hxe⟩ := List.mem_map.1 this
    cases hxe; exact hx
section
variable {P : Program} [Tab P] {N : Nat} {cx : Cx P N} {K : Hp} {ds : List Deferred} {k : List Item} {env : Env} {mem : List Ent} {rg : Rg} {H : List HE} {R : List (Nat × Oper)} {i : Nat} {o : Oper}
variable {κ ν : Type} {T kT eT : TypeId} {ek : κ → SV1} {ev' : ν → SV1} {m : List (κ × ν)} {b : Nat} {r : List Ent} {ti : TInf}
theorem MSat.it {rb : Nat} {seen : List Nat} {Hh : Hp} (s : MSat K (itE rb b ek ev' m seen :: r) Hh) : ItAt b ek ev' m seen rb Hh := by
  obtain ⟨h1, _, _, _, _, s1, _, _, ⟨es, clock, e1, e2, e3, e4, sn, e5, e6⟩, _⟩ := s.head
  exact ⟨es, clock, s1 _ _ e1, e2, e3, e4, sn, s1 _ _ e5, e6⟩
/-- The loop begins. -/
theorem sxo_range {x : Operand} (ho : o.op = .range T x) (hg : guardE rg.ops o env = some true) (hx : ev env x = some (.s (.o (.map (some b))))) (hb : Pick mem (.map b ek ev' m) r) (ht : Tab.ti P T = some ti) (hd : ti.d = .map kT eT)
    (hdst : dstOk N o.dst = true) (hl : rg.lt P i = false)
    (h : ∀ rb, SXo cx K ds rg H R k (setE env o.dst (.s (.o (.pointer (some ⟨rb, 0, none⟩))))) (itE rb b ek ev' m [] :: r)) (hH : ∀ rb, ∀ x ∈ H, rg.fr P x.idx i = true → x.chk (itE rb b ek ev' m [] :: r) := by intro _; repeat (first | exact hh_nil | refine hh_free rfl ?_ | refine hh_chk ⟨_, _, _, (by first | exact .head | exact .tail .head | exact .tail (.tail .head) | exact .tail (.tail (.tail .head)) | exact .tail (.tail (.tail (.tail .head)))), (by rfl)⟩ ?_ | refine hh_chk trivial ?_)) : SXo cx K ds rg H ((i, o) :: R) k env mem :=
  sxo_act hl hg (by rw [ho]; rfl) fun a w s => by
    have hm := MSat.pick hb s.mem
    obtain ⟨es, clock, e1, e2, e3, e4⟩ : MapAt b ek ev' m (vw w) := by
      obtain ⟨h1, _, _, _, _, s1, _, _, ⟨es, clock, q1, q2⟩, _⟩ := hm.head; exact ⟨es, clock, s1 _ _ q1, q2⟩
    have hrun := run_range_map (P := P) w T kT eT b es clock (tab_map ht hd) e1
    have hex : (execOp a.eval o).run P w = .ok (.value (.pointer (some ⟨w.heap.size, 0, none⟩))) (w.alloc (.mapIter (some b) clock #[] clock)) := by
      simp [execOp, ho, s.env.eval hx, hrun]
    unfold OW
    rw [hex]
    refine ⟨_, _, _, ⟨by rw [Act.put_def]; exact s.ds, by rw [Act.put_size]; exact s.size, s.env.put s.size hdst (.s (.o (.pointer (some ⟨w.heap.size, 0, none⟩)))), ?_, s.os, s.out⟩, hH _, h w.heap.size⟩
    rw [show vw (w.alloc (.mapIter (some b) clock #[] clock)) = _ from vw_push w _]
    have hm2 := hm.new (e := .abs w.heap.size fun rb h => h rb = some (.mapIter (some b) clock #[] clock)) (o := .mapIter (some b) clock #[] clock) (vw_size w) (by simp [Ent.den, one_self])
    -- both parts together
    obtain ⟨h1, h2, d, d1, d2, t1, t2, tK, he, h3, h4, d', u1, u2, hm3, hr⟩ := hm2.head
    have d13 : Dj h1 h3 := d.mono (Sub.refl _) u1
    have d14 : Dj h1 h4 := d.mono (Sub.refl _) u2
    refine MSat.mk (h1 := un h1 h3) (h2 := h4) (Dj.un_left d14 d') (Dj.un_right d1 (d2.mono (Sub.refl _) u1)) (d2.mono (Sub.refl _) u2) (un_sub t1 (u1.trans t2)) (u2.trans t2) tK ?_ hr
    obtain ⟨es', clock', f1, f2, f3, f4⟩ := hm3
    have : es' = es ∧ clock' = clock := by
      have h1 := t2 _ _ (u1 _ _ f1)
      have hlt : b ≠ w.heap.size := by
        intro hc; have := vw_lt e1; omega
      simp only [hlt, if_false] at h1
      have := h1.symm.trans e1
      simpa using this
    obtain ⟨rfl, rfl⟩ := this
    exact ⟨es', clock', sub_un_right d13 _ _ f1, f2, f3, f4, #[], sub_un_left h1 h3 _ _ (show h1 w.heap.size = _ from he), List.nodup_nil, fun j hj => absurd hj List.not_mem_nil, rfl⟩
/-- One step: the end, or an entry that has not come. -/
theorem sxo_next {x : Operand} {rb : Nat} {seen : List Nat} (ho : o.op = .next x false) (hg : guardE rg.ops o env = some true) (hx : ev env x = some (.s (.o (.pointer (some ⟨rb, 0, none⟩))))) (hb : Pick mem (itE rb b ek ev' m seen) r)
    (hdst : dstOk N o.dst = true) (hl : rg.lt P i = false)
    (h0 : (∀ j, j < m.length → j ∈ seen) → SXo cx K ds rg H R k (setE env o.dst (.t [.o (.bool false)])) (itE rb b ek ev' m seen :: r))
    (h1 : ∀ j x, m[j]? = some x → j ∉ seen → SXo cx K ds rg H R k (setE env o.dst (.t [.o (.bool true), ek x.1, ev' x.2])) (itE rb b ek ev' m (seen ++ [j]) :: r))
    (hH : ∀ sn, ∀ x ∈ H, rg.fr P x.idx i = true → x.chk (itE rb b ek ev' m sn :: r) := by intro _; repeat (first | exact hh_nil | refine hh_free rfl ?_ | refine hh_chk ⟨_, _, _, (by first | exact .head | exact .tail .head | exact .tail (.tail .head) | exact .tail (.tail (.tail .head)) | exact .tail (.tail (.tail (.tail .head)))), (by rfl)⟩ ?_ | refine hh_chk trivial ?_)) : SXo cx K ds rg H ((i, o) :: R) k env mem :=
  sxo_act hl hg (by rw [ho]; rfl) fun a w s => by
    have hm := MSat.pick hb s.mem
    obtain ⟨es, clock, e1, e2, e3, e4, sn, e5, e6, e7, e8⟩ := hm.it
    have hlen : es.toList.length = m.length := by simpa using congrArg List.length e2
    have g1 : (getObj rb).run P w = .ok (.mapIter (some b) clock sn clock) w := by simp only [vw] at e5; simp [getObj, Sem.run, e5]
    have g2 : (getObj b).run P w = .ok (.map es clock) w := by simp only [vw] at e1; simp [getObj, Sem.run, e1]
    have htest := next_test_false sn es clock clock e4 (Nat.le_refl _)
    let L := es.filter fun e => !sn.contains e.born
    have hold : L.filter (fun e => decide (e.born < clock)) = L := by
      apply Array.toList_inj.1
      rw [Array.toList_filter, List.filter_eq_self]
      intro e he
      have : e ∈ es.toList := by
        simp only [L, Array.toList_filter] at he
        exact (List.mem_filter.1 he).1
      simpa using e4 e this
    have hnew : L.filter (fun e => decide (e.born ≥ clock)) = #[] := by
      apply Array.toList_inj.1
      rw [Array.toList_filter]
      simp only [List.filter_eq_nil_iff]
      intro e he
      have : e ∈ es.toList := by
        simp only [L, Array.toList_filter] at he
        exact (List.mem_filter.1 he).1
      have := e4 e this
      simp; omega
    have hcont : ∀ {j : Nat} {e : MapEntry}, es.toList[j]? = some e → (sn.contains e.born = true ↔ j ∈ seen) := fun he => by
      rw [← seen_contains e3 e8 he]; simp
    by_cases hE : L.isEmpty = true
    · -- all have come
      have hall : ∀ j, j < m.length → j ∈ seen := by
        intro j hj
        obtain ⟨e, he⟩ : ∃ e, es.toList[j]? = some e := ⟨_, List.getElem?_eq_getElem (by omega)⟩
        refine (hcont he).1 ?_
        cases hc : sn.contains e.born with
        | true => rfl
        | false =>
          have : e ∈ L.toList := by
            simp only [L, Array.toList_filter]
            exact List.mem_filter.2 ⟨List.mem_of_getElem? he, by simp only [hc]; rfl⟩
          rw [Array.isEmpty_iff.1 hE] at this
          simp at this
      have hL0 : L = #[] := Array.isEmpty_iff.1 hE
      have hrun : (Instr.next (.pointer (some ⟨rb, 0, none⟩)) false o.type).run P w = .ok (.tuple #[.bool false]) w := by
        have e9 : (es.filter fun e => !sn.contains e.born) = #[] := hL0
        simp only [Instr.next, Sem.run_bind, g1, Result.andThen_ok, g2, htest, Bool.false_eq_true, if_false, e9]
        simp [Question.forced]
      have hex : (execOp a.eval o).run P w = .ok (.value (.tuple #[.bool false])) w := by simp [execOp, ho, s.env.eval hx, hrun]
      unfold OW
      rw [hex]
      exact ⟨_, _, _, ⟨by rw [Act.put_def]; exact s.ds, by rw [Act.put_size]; exact s.size, s.env.put s.size hdst (.t [.o (.bool false)]), hm, s.os, s.out⟩, hH _, h0 hall⟩
    · have hLs : 0 < L.size := by
        rcases Nat.eq_zero_or_pos L.size with h | h
        · exact absurd (by rw [Array.eq_empty_of_size_eq_zero h]; rfl) hE
        · exact h
      obtain ⟨q, w1, hq, hw1, hch⟩ : ∃ q w1, q < L.size ∧ (vw w1 = vw w ∧ w1.os = w.os ∧ w1.output = w.output ∧ w1.heap = w.heap) ∧ (choose (.mapNext L.size)).run P w = .ok q w1 := by
        by_cases hf : (Question.mapNext L.size).forced = true
        · exact ⟨0, w, hLs, ⟨rfl, rfl, rfl, rfl⟩, by simp [choose, Sem.run, hf]⟩
        · refine ⟨(Question.mapNext L.size).cut (w.tape w.drawn (.mapNext L.size)), { w with drawn := w.drawn + 1 }, ?_, ⟨rfl, rfl, rfl, rfl⟩, by simp [choose, Sem.run, hf]⟩
          exact Nat.mod_lt _ hLs
      obtain ⟨e, he⟩ : ∃ e, L[q]? = some e := ⟨_, Array.getElem?_eq_getElem hq⟩
      have heL : e ∈ L.toList := by rw [← Array.getElem?_toList] at he; exact List.mem_of_getElem? he
      simp only [L, Array.toList_filter] at heL
      obtain ⟨hes, hsn⟩ := List.mem_filter.1 heL
      obtain ⟨j, hj⟩ := List.mem_iff_getElem?.1 hes
      have hjn : j ∉ seen := fun hc => by
        have h9 := (hcont hj).2 hc
        have h8 : (!sn.contains e.born) = true := hsn
        rw [h9] at h8; cases h8
      have hkv : ∃ x, m[j]? = some x ∧ e.key = (ek x.1).val ∧ e.val = (ev' x.2).val := by
        have := congrArg (fun l => l[j]?) e2
        simp only [List.getElem?_map, hj, Option.map_some] at this
        cases hmj : m[j]? with
        | none => rw [hmj] at this; cases this
        | some x => rw [hmj] at this; simp at this; exact ⟨x, rfl, this.1, this.2⟩
      obtain ⟨x, hmx, hkx, hvx⟩ := hkv
      have hrbs : rb < w.heap.size := vw_lt e5
      have g3 : (setObj rb (.mapIter (some b) clock (sn.push e.born) clock)).run P w1 = .ok () { w1 with heap := w1.heap.setIfInBounds rb (.mapIter (some b) clock (sn.push e.born) clock) } := by
        have : w1.heap[rb]? = some (.mapIter (some b) clock sn clock) := by rw [hw1.2.2.2]; exact e5
        simp [setObj, Sem.run, this]
      have hrun : (Instr.next (.pointer (some ⟨rb, 0, none⟩)) false o.type).run P w = .ok (.tuple #[.bool true, e.key, e.val]) { w1 with heap := w1.heap.setIfInBounds rb (.mapIter (some b) clock (sn.push e.born) clock) } := by
        have e9 : (es.filter fun e => !sn.contains e.born) = L := rfl
        have hEf : L.isEmpty = false := by simpa using hE
        simp only [Instr.next, Sem.run_bind, g1, Result.andThen_ok, g2, htest, Bool.false_eq_true, if_false, e9, hold, hnew, hEf]
        simp only [Array.append_empty, Array.empty_append, Array.size_map, hch, Result.andThen_ok, Array.getElem?_map, he, Option.map_some, Sem.run_bind, g3, Sem.run_pure]
      have hex : (execOp a.eval o).run P w = .ok (.value (SV.t [.o (.bool true), ek x.1, ev' x.2]).val) { w1 with heap := w1.heap.setIfInBounds rb (.mapIter (some b) clock (sn.push e.born) clock) } := by
        simp [execOp, ho, s.env.eval hx, hrun, hkx, hvx]
      unfold OW
      rw [hex]
      refine ⟨_, _, _, ⟨by rw [Act.put_def]; exact s.ds, by rw [Act.put_size]; exact s.size, s.env.put s.size hdst (.t [.o (.bool true), ek x.1, ev' x.2]), ?_, hw1.2.1.trans s.os, hw1.2.2.1.trans s.out⟩, hH _, h1 j x hmx hjn⟩
      rw [vw_set w1 rb _ (by rw [hw1.2.2.2]; exact hrbs), hw1.1]
      refine hm.turn (o := .mapIter (some b) clock (sn.push e.born) clock) (fun h1 he => by obtain ⟨_, _, _, _, _, _, _, hb, _⟩ := he; simp [hb]) (fun h2 s2 he2 => ?_)
      obtain ⟨es2, clock2, f1, f2, f3, f4, sn2, f5, f6, f7, f8⟩ := he2
      have q1 := (s2 _ _ f1).symm.trans e1
      have q2 := (s2 _ _ f5).symm.trans e5
      simp only [Option.some.injEq, Obj.map.injEq] at q1
      obtain ⟨rfl, rfl⟩ := q1
      simp only [Option.some.injEq, Obj.mapIter.injEq, true_and] at q2
      obtain ⟨rfl, _⟩ := q2
      have hne : b ≠ rb := by
        intro hc; subst hc
        rw [f1] at f5; cases f5
      refine ⟨es2, clock2, by rw [put_ne _ _ hne]; exact f1, f2, f3, f4, sn2.push e.born, put_self _ _ _, ?_, ?_, ?_⟩
      · exact List.nodup_append.2 ⟨f6, by simp, fun a ha b' hb' => by simp at hb'; subst hb'; exact fun hc => hjn (hc ▸ ha)⟩
      · intro j' hj'
        rcases List.mem_append.1 hj' with h | h
        · exact f7 j' h
        · simp at h; subst h; exact (List.getElem?_eq_some_iff.1 hmx).1
      · have hj2 : es2[j]? = some e := by simpa using hj
        simp [f8, hj2]
/-- What the step has come to, looked at again. -/
theorem sxo_entry {x : Operand} {rb j : Nat} {seen : List Nat} {y : κ × ν} (ho : o.op = .entry x) (hg : guardE rg.ops o env = some true) (hx : ev env x = some (.s (.o (.pointer (some ⟨rb, 0, none⟩))))) (hb : Pick mem (itE rb b ek ev' m (seen ++ [j])) r)
    (hj : m[j]? = some y) (hdst : dstOk N o.dst = true) (hst : rg.flo.any (fun x => Nat.beq x.1 i) = false)
    (h : SXo cx K ds rg H R k (setE env o.dst (.t [ek y.1, ev' y.2])) mem) (hH : ∀ x ∈ H, rg.fr P x.idx i = true → x.chk mem := by repeat (first | exact hh_nil | refine hh_free rfl ?_ | refine hh_chk ⟨_, _, _, (by first | exact .head | exact .tail .head | exact .tail (.tail .head) | exact .tail (.tail (.tail .head)) | exact .tail (.tail (.tail (.tail .head)))), (by rfl)⟩ ?_ | refine hh_chk trivial ?_)) : SXo cx K ds rg H ((i, o) :: R) k env mem :=
  sxo_val (v := .t [ek y.1, ev' y.2]) (pu := False) (chk := fun _ => False) hg (by rw [ho]; rfl) hdst (fun a w s => by
    obtain ⟨es, clock, e1, e2, e3, e4, sn, e5, e6, e7, e8⟩ := (MSat.pick hb s.mem).it
    obtain ⟨e, he, hek, hev⟩ : ∃ e, es.toList[j]? = some e ∧ e.key = (ek y.1).val ∧ e.val = (ev' y.2).val := by
      have := congrArg (fun l => l[j]?) e2
      simp only [List.getElem?_map, hj, Option.map_some] at this
      cases hc : es.toList[j]? with
      | none => rw [hc] at this; cases this
      | some e => rw [hc] at this; simp at this; exact ⟨e, rfl, this.1, this.2⟩
    have hlast : sn.back? = some e.born := by
      have h9 := congrArg List.getLast? e8
      simp only [List.getLast?_map, List.map_append, List.map_cons, List.map_nil, he, Option.map_some] at h9
      rw [← Array.getLast?_toList]
      cases hl : sn.toList.getLast? with
      | none => rw [hl] at h9; simp at h9
      | some x => rw [hl] at h9; simp at h9; rw [h9]
    have g1 : (getObj rb).run P w = .ok (.mapIter (some b) clock sn clock) w := by simp only [vw] at e5; simp [getObj, Sem.run, e5]
    have g2 : (getObj b).run P w = .ok (.map es clock) w := by simp only [vw] at e1; simp [getObj, Sem.run, e1]
    have hf : es.find? (·.born == e.born) = some e := by rw [← Array.find?_toList]; exact find_born e es.toList e3 (List.mem_of_getElem? he)
    have hrun : (Instr.entry (.pointer (some ⟨rb, 0, none⟩))).run P w = .ok (.tuple #[e.key, e.val]) w := by
      simp only [Instr.entry, Sem.run_bind, g1, Result.andThen_ok, hlast, g2, bne_self_eq_false, Bool.false_eq_true, if_false, hf, Sem.run_pure]
    simp [execOp, ho, s.env.eval hx, hrun, hek, hev]) (.still (by rw [ho]; rfl) hst) (fun h => h.elim) (fun _ h => h.elim) hH h
/-- The loop is over. -/
theorem itE_map {rb : Nat} {seen : List Nat} (h : Hp) (e : (itE rb b ek ev' m seen).den h) : (Ent.map b ek ev' m).den h := by
  obtain ⟨es, clock, e1, e2, e3, e4, _⟩ := e; exact ⟨es, clock, e1, e2, e3, e4⟩
end
end Go.SX

namespace Go.SX

/-- What a call of a function value comes to. -/
def CallV (P : Program) (Y : Value) (args : List Value) (w : World) (N : Value → World → Prop) : Prop :=
  match ((do let d ← Deferred.ofValue Y args.toArray; invoke d.target d.args) : Sem Next).run P w with
  | .ok (.value v) w' => N v w'
  | .ok (.enter f as1) w' => Calls P f as1 w' fun e w'' => ∃ v, e = .returned v ∧ N v w''
  | .ok (.round l f t a b) w' => Rnd P l f t a b w' N
  | _ => False
theorem CallV.mono {P : Program} {Y : Value} {args : List Value} {w : World} {N N' : Value → World → Prop} (h : ∀ v w, N v w → N' v w) (x : CallV P Y args w N) : CallV P Y args w N' := by
  unfold CallV at *
  split at x
  · exact h _ _ x
  · exact x.mono fun e w ⟨v, e1, n⟩ => ⟨v, e1, h _ _ n⟩
  · exact x.mono h
  · exact x.elim
/-- A function value's contract. -/
def TRV (P : Program) (K : Hp) (Y : Value) (args : List SV1) (mem : List Ent) (Q : SV → List Ent → Prop) : Prop :=
  ∀ w, MSat K mem (vw w) → CallV P Y (args.map SV1.val) w fun u w' => ∃ v m, u = v.val ∧ Q v m ∧ MSat K m (vw w') ∧ w'.os = w.os ∧ w'.output = w.output
theorem TRV.mono {P : Program} {K : Hp} {Y : Value} {args : List SV1} {mem : List Ent} {Q Q' : SV → List Ent → Prop} (h : TRV P K Y args mem Q) (hq : ∀ v m, Q v m → Q' v m) : TRV P K Y args mem Q' :=
  fun w s => (h w s).mono fun _ _ ⟨v, m, e, q, r⟩ => ⟨v, m, e, hq v m q, r⟩
theorem TR.val {P : Program} {K : Hp} {f : FuncId} {fs cs : Array Value} {args vs : List SV1} {mem : List Ent} {Q : SV → List Ent → Prop} (h : TR P K f args mem Q)
    (hargs : fs.toList ++ vs.map SV1.val ++ cs.toList = args.map SV1.val) : TRV P K (.func (.func f) fs cs) vs mem Q := fun w s => by
  obtain ⟨fn, hf, hbody, hname⟩ := h.can
  have hcall := h.run w s
  have eall : fs ++ (vs.map SV1.val).toArray ++ cs = (args.map SV1.val).toArray := by
    apply Array.toList_inj.1; simpa using hargs
  have hbn : ¬ fn.body = none := by
    intro hb; simp [hb] at hbody
  have hname' : ¬ fn.name = "runtime.NumGoroutine" := by simpa using hname
  have hrun : ((do let d ← Deferred.ofValue (.func (.func f) fs cs) (vs.map SV1.val).toArray; invoke d.target d.args) : Sem Next).run P w = .ok (.enter f (args.map SV1.val).toArray) w := by
    simp [Deferred.ofValue, invoke, callFunc, hf, hname', hbn, ← eall]
  unfold CallV
  rw [hrun]
  exact hcall.mono fun e w' ⟨v, m, he, hr⟩ => ⟨v.val, he, v, m, rfl, hr⟩
section
variable {P : Program} [Tab P] {N : Nat} {cx : Cx P N} {K : Hp} {ds : List Deferred} {k : List Item} {env : Env} {mem : List Ent} {rg : Rg} {H : List HE} {R : List (Nat × Oper)} {i : Nat} {o : Oper}
/-- **A CALL OF A FUNCTION VALUE.** -/
theorem sxo_callV {cal : Operand} {as1 : Array Operand} {ts : Array TypeId} {Y : Value} {vs : List SV1} {M r : List Ent} {Q : SV → List Ent → Prop}
    (ho : o.op = .call { callee := .value cal, args := as1, argTypes := ts }) (hg : guardE rg.ops o env = some true) (hc : ev env cal = some (.s (.o Y))) (ha : evs env as1.toList = some vs)
    (hM : Take mem M r) (hd : dstOk N o.dst = true) (hl : rg.lt P i = false)
    (ht : ∀ Kc, Sub K Kc → Beside r Kc → TRV P Kc Y vs M Q)
    (h : ∀ v m, Q v m → SXo cx K ds rg H R k (setE env o.dst v) (m ++ r)) (hH : ∀ v m, Q v m → ∀ x ∈ H, rg.fr P x.idx i = true → x.chk (m ++ r) := by intro _ _ _; repeat (first | exact hh_nil | refine hh_free rfl ?_ | refine hh_chk ⟨_, _, _, (by first | exact .head | exact .tail .head | exact .tail (.tail .head) | exact .tail (.tail (.tail .head)) | exact .tail (.tail (.tail (.tail .head)))), (by rfl)⟩ ?_ | refine hh_chk trivial ?_)) :
    SXo cx K ds rg H ((i, o) :: R) k env mem :=
  sxo_act hl hg (by rw [ho]; rfl) fun a w s => by
    obtain ⟨hh, d, s1, s2, os⟩ := s.mem
    obtain ⟨h1, h2, dd, t1, t2, hM1, hr1⟩ := OSat.take hM os
    have dK2 : Dj K h2 := d.mono (Sub.refl _) t2
    have hsub : Sub (un K h2) (vw w) := un_sub s1 (t2.trans s2)
    have hdj : Dj (un K h2) h1 := Dj.un_left (d.mono (Sub.refl _) t1) dd.symm
    have hcall := ht (un K h2) (sub_un_left _ _) ⟨h2, sub_un_right dK2, hr1⟩ w ⟨h1, hdj, hsub, t1.trans s2, hM1⟩
    have eA : as1.map a.eval = (vs.map SV1.val).toArray := by apply Array.toList_inj.1; simp [s.env.evals ha]
    have hex : (execOp a.eval o) = (do let d ← Deferred.ofValue Y (vs.map SV1.val).toArray; invoke d.target d.args : Sem Next) := by
      simp only [execOp, ho, resolve, s.env.eval hc, eA]
    have fin : ∀ (u : Value) (w' : World), (∃ v m, u = SV.val v ∧ Q v m ∧ MSat (un K h2) m (vw w') ∧ w'.os = w.os ∧ w'.output = w.output) →
        ∃ env' mem' ds', St cx K ds' env' mem' (a.put o.dst u) w' ∧ (∀ x ∈ H, rg.fr P x.idx i = true → x.chk mem') ∧ SXo cx K ds' rg H R k env' mem' := by
      rintro u w'' ⟨v, m, rfl, hq, hm, ho1, ho2⟩
      obtain ⟨g, dg, sg, sg2, og⟩ := hm
      refine ⟨_, m ++ r, _, ⟨by rw [Act.put_def]; exact s.ds, by rw [Act.put_size]; exact s.size, s.env.put s.size hd v, ?_, ho1.trans s.os, ho2.trans s.out⟩, hH v m hq, h v m hq⟩
      have dKg : Dj K g := dg.mono (sub_un_left _ _) (Sub.refl _)
      have d2g : Dj h2 g := dg.mono (sub_un_right dK2) (Sub.refl _)
      exact ⟨un g h2, Dj.un_right dKg dK2, (sub_un_left _ _).trans sg, un_sub sg2 ((sub_un_right dK2).trans sg), OSat.append d2g.symm (sub_un_left _ _) (sub_un_right d2g.symm) og hr1⟩
    unfold OW
    rw [hex]
    unfold CallV at hcall
    split at hcall
    · rename_i v w' hr; rw [hr]; exact fin _ _ hcall
    · rename_i f as1 w' hr
      rw [hr]
      exact hcall.mono fun e w'' ⟨v, e1, n⟩ => ⟨v, e1, fin _ _ n⟩
    · rename_i l f t a' b w' hr
      rw [hr]
      exact hcall.mono fun v w'' n => fin _ _ n
    · exact hcall.elim

/-! ### Ranges over a function -/
/-- The record of a range over a function. -/
def lpE (l : Nat) (lp : Loop) (st : LoopState) (pd : Option Code) : Ent := .abs l fun l h => h l = some (.loop { lp with state := st, pending := pd })
/-- The block of its deferred calls: there are none. -/
def dfE (b : Nat) : Ent := .abs b fun b h => h b = some (.deferred (some []))
theorem MSat.lp {l : Nat} {lp : Loop} {st : LoopState} {pd : Option Code} {r : List Ent} {Hh : Hp} (s : MSat K (lpE l lp st pd :: r) Hh) : Hh l = some (.loop { lp with state := st, pending := pd }) := by
  obtain ⟨h1, _, _, _, _, s1, _, _, he, _⟩ := s.head; exact s1 _ _ he
theorem MSat.df {b : Nat} {r : List Ent} {Hh : Hp} (s : MSat K (dfE b :: r) Hh) : Hh b = some (.deferred (some [])) := by
  obtain ⟨h1, _, _, _, _, s1, _, _, he, _⟩ := s.head; exact s1 _ _ he
theorem vw_putObj {w : World} {l : Nat} {o o' : Obj} (h : vw w l = some o) : vw (w.putObj l o') = put (vw w) l o' := by
  rw [World.putObj, vw_set w l o' (vw_lt h)]; rfl
theorem MSat.lpTurn {l : Nat} {lp : Loop} {st st' : LoopState} {pd pd' : Option Code} {r : List Ent} {Hh : Hp} (s : MSat K (lpE l lp st pd :: r) Hh) :
    MSat K (lpE l lp st' pd' :: r) (put Hh l (.loop { lp with state := st', pending := pd' })) :=
  s.turn (fun h1 he => by simp only [Ent.den, lpE] at he; simp [he]) (fun h1 _ _ => by simp [Ent.den, lpE, put_self])
/-- The way out of a round. -/
def RetR {N : Nat} (cx : Cx P N) (K : Hp) (Q : SV → List Ent → Prop) : Prop :=
  ∃ c cs, cx.cs = c :: cs ∧ ∀ (v : SV) (m : List Ent) (w' : World), Q v m → MSat K m (vw w') → w'.os = cx.os → w'.output = cx.out → cx.T (lone (c.finish v.val) cs w')
theorem sx_beginRound {l : Nat} {lp : Loop} {pd : Option Code} {r : List Ent} (hro : cx.b.roundOf = some l) (hp : Pick mem (lpE l lp .ready pd) r) (h : SX cx K ds k env (lpE l lp .busy pd :: r)) : SX cx K ds (.beginRound :: k) env mem := fun a w s => by
  have hm := MSat.pick hp s.mem
  have hl : vw w l = _ := hm.lp
  have hbr := run_beginRound (P := P) (w := w) (l := l) hl rfl
  refine cx.step (stepR_beginRound hro hbr) (h a _ ⟨s.ds, s.size, s.env, ?_, s.os, s.out⟩)
  rw [vw_putObj hl]
  exact hm.lpTurn
theorem sx_round_end {l : Nat} {lp : Loop} {pd : Option Code} {r : List Ent} {Q : SV → List Ent → Prop} (hR : RetR cx K Q) (hro : cx.b.roundOf = some l) (hk : cx.b.kind = .normal) (hp : Pick mem (lpE l lp .busy pd) r)
    (hQ : Q (.s (.o (.bool true))) (lpE l lp .ready none :: r)) : SX cx K ds [] env mem := fun a w s => by
  obtain ⟨c, cs, hcs, hT⟩ := hR
  have hm := MSat.pick hp s.mem
  have hl : vw w l = _ := hm.lp
  have her := run_endRound (P := P) (w := w) (l := l) none hl
  rw [hcs]
  refine cx.step (stepR_round_end hro hk her) (hT (.s (.o (.bool true))) _ _ hQ ?_ s.os s.out)
  rw [vw_putObj hl]
  exact hm.lpTurn
theorem sx_round_ret {l : Nat} {lp : Loop} {pd : Option Code} {r : List Ent} {Q : SV → List Ent → Prop} (hR : RetR cx K Q) (hro : cx.b.roundOf = some l) (hk : cx.b.kind = .normal) (hp : Pick mem (lpE l lp .busy pd) r)
    (hQ : Q (.s (.o (.bool false))) (lpE l lp .done (some .ret) :: r)) : SX cx K ds (.code .ret :: k) env mem := fun a w s => by
  obtain ⟨c, cs, hcs, hT⟩ := hR
  have hm := MSat.pick hp s.mem
  have hl : vw w l = _ := hm.lp
  have her := run_endRound (P := P) (w := w) (l := l) (some .ret) hl
  rw [hcs]
  refine cx.step (stepR_round_ret hro hk her) (hT (.s (.o (.bool false))) _ _ hQ ?_ s.os s.out)
  rw [vw_putObj hl]
  exact hm.lpTurn
theorem sx_round_exit {l id : Nat} {lp : Loop} {pd : Option Code} {r : List Ent} {Q : SV → List Ent → Prop} (hR : RetR cx K Q) (hro : cx.b.roundOf = some l) (hk : cx.b.kind = .normal) (hx : exitTo id k = none) (hp : Pick mem (lpE l lp .busy pd) r)
    (hQ : Q (.s (.o (.bool false))) (lpE l lp .done (some (.exit id)) :: r)) : SX cx K ds (.code (.exit id) :: k) env mem := fun a w s => by
  obtain ⟨c, cs, hcs, hT⟩ := hR
  have hm := MSat.pick hp s.mem
  have hl : vw w l = _ := hm.lp
  have her := run_endRound (P := P) (w := w) (l := l) (some (.exit id)) hl
  rw [hcs]
  refine cx.step (stepR_round_exit hro hk hx her) (hT (.s (.o (.bool false))) _ _ hQ ?_ s.os s.out)
  rw [vw_putObj hl]
  exact hm.lpTurn
/-- What the record knows of the activation that ranges. -/
structure LpOk (N : Nat) (env : Env) (ps : Array Tmp) (assign body : Code) (lp : Loop) : Prop where
  size : lp.tmps.size = N
  env : ESat env { tmps := lp.tmps, defers := [] }
  params : lp.params = ps
  assign : lp.assign = assign
  body : lp.body = body
/-- **A ROUND: what a call of yield does.** (One parameter.) -/
theorem trv_yield1 {l t : Nat} {lp : Loop} {assign body : Code} {M : List Ent} {Q : SV → List Ent → Prop} {v : SV1} (hlp : LpOk N env #[t] assign body lp) (ht : Nat.blt t N = true)
    (h : ∀ cx : Cx P N, cx.b.roundOf = some l → cx.b.kind = .normal → RetR cx K Q → SX cx K [] [.code assign, .beginRound, .code body] ((t, .s v) :: env) (lpE l lp .ready none :: M)) :
    TRV P K (.func (.yield l) #[] #[]) [v] (lpE l lp .ready none :: M) Q := fun w s => by
  have hl : vw w l = _ := s.lp
  have hy := run_yield (P := P) (w := w) (l := l) (args := #[v.val]) hl (by simp [hlp.params])
  have hrun : ((do let d ← Deferred.ofValue (.func (.yield l) #[] #[]) ([v].map SV1.val).toArray; invoke d.target d.args) : Sem Next).run P w =
      .ok (.round l lp.fn (lp.tmps.setIfInBounds t v.val) assign body) w := by
    simp [Deferred.ofValue, invoke, hy, hlp.params, hlp.assign, hlp.body]
  unfold CallV
  rw [hrun]
  intro c cs
  let b : Frame := { (default : Frame) with fn := lp.fn, kind := .normal, roundOf := some l }
  let T : Machine → Prop := fun m => ∃ u w', (∃ v m, u = SV.val v ∧ Q v m ∧ MSat K m (vw w') ∧ w'.os = w.os ∧ w'.output = w.output) ∧ Steps P m (lone (c.finish u) cs w')
  let cx : Cx P N := { T := T, back := fun m m' hs ⟨u, w', h1, h2⟩ => ⟨u, w', h1, Steps.trans hs h2⟩, b := b, cs := c :: cs, os := w.os, out := w.output }
  have hR : RetR cx K Q := ⟨c, cs, rfl, fun v m w' hq hm h1 h2 => ⟨v.val, w', ⟨v, m, rfl, hq, hm, h1, h2⟩, Steps.refl _ _⟩⟩
  have henter : Frame.round l lp.fn (lp.tmps.setIfInBounds t v.val) assign body .normal = b.atR { tmps := lp.tmps.setIfInBounds t v.val, defers := [] } [.code assign, .beginRound, .code body] := by
    simp [Frame.round, Frame.atR, b]
  rw [henter]
  have hES : ESat ((t, .s v) :: env) { tmps := lp.tmps.setIfInBounds t v.val, defers := [] } := by
    have := hlp.env.put (N := N) hlp.size (d := some t) ht (.s v)
    simpa [setE, Act.put] using this
  exact h cx rfl rfl hR _ w ⟨rfl, by simp [hlp.size], hES, s, rfl, rfl⟩
/-- **THE STATEMENT**: the function that is ranged over is called with yield. -/
theorem sx_rangeFunc {g : Operand} {ps : Array Tmp} {assign body : Code} {f : FuncId} {fs cs : Array Value} {M r : List Ent} (args : Nat → List SV1) (Q : Nat → Loop → SV → List Ent → Prop)
    (hro : cx.b.roundOf = none) (hg : ev env g = some (.s (.o (.func (.func f) fs cs)))) (hargs : ∀ l, fs.toList ++ [.func (.yield l) #[] #[]] ++ cs.toList = (args l).map SV1.val) (hM : Take mem M r)
    (ht : ∀ Kc l lp, Sub K Kc → Beside r Kc → LpOk N env ps assign body lp → TR P Kc f (args l) (lpE l lp .ready none :: M) (Q l lp))
    (h : ∀ b l lp v m, LpOk N env ps assign body lp → Q l lp v m → ∃ st pd r', Pick m (lpE l lp st pd) r' ∧ st ≠ .busy ∧ SX cx K (⟨.collected b, #[]⟩ :: ds) ((pd.map Item.code).toList ++ k) env (r' ++ (dfE b :: r))) :
    SX cx K ds (.code (.rangeFunc g ps assign body) :: k) env mem := fun a w s => by
  have he := run_enterLoop_outer (P := P) (w := w) cx.b.fn a.tmps ps assign body
  rw [← hro] at he
  let lp : Loop := { state := .ready, pending := none, fn := cx.b.fn, tmps := a.tmps, params := ps, assign := assign, body := body, defers := w.heap.size }
  have hlp : LpOk N env ps assign body lp := ⟨s.size, s.env, rfl, rfl, rfl⟩
  -- the entries after both blocks are laid
  obtain ⟨hh, d, s1, s2, os⟩ := s.mem
  obtain ⟨h1, h2, dd, t1, t2, hM1, hr1⟩ := OSat.take hM os
  have hm0 : MSat K (M ++ r) (vw w) := ⟨un h1 h2, Dj.un_right (d.mono (Sub.refl _) t1) (d.mono (Sub.refl _) t2), s1, un_sub (t1.trans s2) (t2.trans s2), OSat.append dd (sub_un_left _ _) (sub_un_right dd) hM1 hr1⟩
  have hm1 : MSat K (dfE w.heap.size :: (M ++ r)) (vw (w.alloc (.deferred (some [])))) := by
    show MSat K _ (vw { w with heap := w.heap.push _ })
    rw [vw_push]; exact hm0.new (vw_size w) (by simp [Ent.den, dfE, one_self])
  have hm2 : MSat K (lpE (w.heap.size + 1) lp .ready none :: dfE w.heap.size :: (M ++ r)) (vw ((w.alloc (.deferred (some []))).alloc (.loop lp))) := by
    have hsz : (w.alloc (.deferred (some []))).heap.size = w.heap.size + 1 := World.size_alloc _ _
    show MSat K _ (vw { (w.alloc (.deferred (some []))) with heap := (w.alloc (.deferred (some []))).heap.push _ })
    rw [vw_push, hsz]
    refine hm1.new ?_ (by simp [Ent.den, lpE, one_self, lp])
    rw [← hsz]; exact vw_size _
  have hTake : Take (lpE (w.heap.size + 1) lp .ready none :: dfE w.heap.size :: (M ++ r)) (lpE (w.heap.size + 1) lp .ready none :: M) (dfE w.heap.size :: r) := by
    refine .cons .head ?_
    have key : ∀ (x : Ent) (M r : List Ent), Take (x :: (M ++ r)) M (x :: r) := by
      intro x M
      induction M with
      | nil => exact fun r => .nil
      | cons e M ih => exact fun r => .cons (.tail .head) (ih r)
    exact key _ _ _
  obtain ⟨hh', d', s1', s2', os'⟩ := hm2
  obtain ⟨g1, g2, dd', t1', t2', hMl, hrl⟩ := OSat.take hTake os'
  have dK2 : Dj K g2 := d'.mono (Sub.refl _) t2'
  have hBes : Beside r (un K g2) := by
    obtain ⟨q1, q2, _, _, q4, _, q6⟩ := hrl
    exact ⟨q2, q4.trans (sub_un_right dK2), q6⟩
  have tr := ht (un K g2) (w.heap.size + 1) lp (sub_un_left _ _) hBes hlp
  obtain ⟨fn, hf, hbody, hname⟩ := tr.can
  have hcall := tr.run _ ⟨g1, Dj.un_left (d'.mono (Sub.refl _) t1') dd'.symm, un_sub s1' (t2'.trans s2'), t1'.trans s2', hMl⟩
  have hbn : ¬ fn.body = none := by
    intro hb; simp [hb] at hbody
  have hname' : ¬ fn.name = "runtime.NumGoroutine" := by simpa using hname
  have eall : fs ++ #[Value.func (.yield (w.heap.size + 1)) #[] #[]] ++ cs = ((args (w.heap.size + 1)).map SV1.val).toArray := by
    apply Array.toList_inj.1; simpa using hargs (w.heap.size + 1)
  have hev0 : a.eval (.const (.func (.yield (w.heap.size + 1)) #[] #[])) = .func (.yield (w.heap.size + 1)) #[] #[] := rfl
  have hstep := stepR_rangeFunc (P := P) (g := g) (b := cx.b) (a := a) (k := k) (cs := cx.cs) (w := w) (w₁' := (w.alloc (.deferred (some []))).alloc (.loop lp)) (w₂ := (w.alloc (.deferred (some []))).alloc (.loop lp))
    (d := { target := .fn (.func f) cs, args := fs ++ #[.func (.yield (w.heap.size + 1)) #[] #[]] }) (f := f) (args := ((args (w.heap.size + 1)).map SV1.val).toArray) he
    (by simp [resolve, rangeCall, s.env.eval hg, Deferred.ofValue, hev0]; rfl) (by rw [← eall]; simp [invoke, callFunc, hf, hname', hbn])
  obtain ⟨e, w3, fr, ⟨v, m, rfl, hq, hm3, ho1, ho2⟩, hsteps, _, hleave⟩ := hcall (cx.b.atR { a with defers := [{ target := .collected w.heap.size, args := #[] }] ++ a.defers } (.inRangeFunc (w.heap.size + 1) :: k) :: cx.cs)
  refine cx.back _ _ (.one hstep) (cx.back _ _ hsteps (cx.step (step_leave_returned hleave) ?_))
  rw [finish_atR_inRangeFunc]
  obtain ⟨st, pd, r', hp, hst, hsx⟩ := h w.heap.size (w.heap.size + 1) lp v m hlp hq
  -- all entries, behind the call
  have hm4 : MSat K (m ++ (dfE w.heap.size :: r)) (vw w3) := by
    obtain ⟨g, dg, sg, sg2, og⟩ := hm3
    have dKg : Dj K g := dg.mono (sub_un_left _ _) (Sub.refl _)
    have d2g : Dj g2 g := dg.mono (sub_un_right dK2) (Sub.refl _)
    exact ⟨un g g2, Dj.un_right dKg dK2, (sub_un_left _ _).trans sg, un_sub sg2 ((sub_un_right dK2).trans sg), OSat.append d2g.symm (sub_un_left _ _) (sub_un_right d2g.symm) og hrl⟩
  have hpk : Pick (m ++ (dfE w.heap.size :: r)) (lpE (w.heap.size + 1) lp st pd) (r' ++ (dfE w.heap.size :: r)) := by
    have key : ∀ {m r' : List Ent} {e : Ent} (q : List Ent), Pick m e r' → Pick (m ++ q) e (r' ++ q) := by
      intro m r' e q hp
      induction hp with
      | head => exact .head
      | tail _ ih => exact .tail ih
    exact key _ hp
  have hm5 := MSat.pick hpk hm4
  have hl : vw w3 (w.heap.size + 1) = _ := hm5.lp
  have hend := run_endLoop (P := P) (w := w3) (l := w.heap.size + 1) hl hst
  refine cx.step (stepR_endRangeFunc hend) (hsx _ _ ⟨?_, s.size, s.env, ?_, ho1.trans s.os, ho2.trans s.out⟩)
  · show _ ++ a.defers = _; rw [s.ds]; rfl
  · rw [vw_putObj hl]
    exact (hm5.lpTurn (st' := .exhausted) (pd' := pd)).drop
/-- A return behind such a statement. -/
theorem sx_ret_df {fn : Func} {Q : SV → List Ent → Prop} {vs : List SV1} {b : Nat} {r : List Ent} (hR : Ret cx fn K Q) (hro : cx.b.roundOf = none) (hk : cx.b.kind = .normal) (hp : Pick mem (dfE b) r)
    (hr : ResOk P env r fn.results.toList vs) (hQ : Q (resV vs) r) : SX cx K [⟨.collected b, #[]⟩] (.code .ret :: k) env mem := fun a w s => by
  have hm := MSat.pick hp s.mem
  have hb : vw w b = _ := hm.df
  have htk := run_takeDeferred (P := P) (w := w) hb
  have hc := step_collected (P := P) (fr := { cx.b.atR a (.code .ret :: k) with mode := .returning }) (cs := cx.cs) (w := w) (d := ⟨.collected b, #[]⟩) (r := b) (ds := []) (calls := []) (by simp) s.ds rfl htk
  have hm2 : MSat K r (vw (w.putObj b (.deferred none))) := by
    rw [vw_putObj hb]
    exact MSat.drop (hm.turn (e' := .abs b fun b h => h b = some (.deferred none)) (fun h1 he => by simp only [Ent.den, dfE] at he; simp [he]) (fun h1 _ _ => by simp [Ent.den, put_self]))
  have hfin := hR { { cx.b.atR a (.code .ret :: k) with mode := .returning } with defers := [] ++ [] } _ (resV vs) r rfl rfl hk rfl (hr.run (by simp) s.env hm2) hQ hm2 s.os s.out
  exact cx.step (stepR_ret hro) (cx.step hc hfin)
theorem sx_end_df {fn : Func} {Q : SV → List Ent → Prop} {vs : List SV1} {b : Nat} {r : List Ent} (hR : Ret cx fn K Q) (hro : cx.b.roundOf = none) (hk : cx.b.kind = .normal) (hp : Pick mem (dfE b) r)
    (hr : ResOk P env r fn.results.toList vs) (hQ : Q (resV vs) r) : SX cx K [⟨.collected b, #[]⟩] [] env mem := fun a w s => by
  have hm := MSat.pick hp s.mem
  have hb : vw w b = _ := hm.df
  have htk := run_takeDeferred (P := P) (w := w) hb
  have hc := step_collected (P := P) (fr := { cx.b.atR a [] with mode := .returning }) (cs := cx.cs) (w := w) (d := ⟨.collected b, #[]⟩) (r := b) (ds := []) (calls := []) (by simp) s.ds rfl htk
  have hm2 : MSat K r (vw (w.putObj b (.deferred none))) := by
    rw [vw_putObj hb]
    exact MSat.drop (hm.turn (e' := .abs b fun b h => h b = some (.deferred none)) (fun h1 he => by simp only [Ent.den, dfE] at he; simp [he]) (fun h1 _ _ => by simp [Ent.den, put_self]))
  have hfin := hR { { cx.b.atR a [] with mode := .returning } with defers := [] ++ [] } _ (resV vs) r rfl rfl hk rfl (hr.run (by simp) s.env hm2) hQ hm2 s.os s.out
  exact cx.step (stepR_end hro) (cx.step hc hfin)
end
end Go.SX

namespace Go.SX
def tabTryzlll : Tr := (.node 30 (.node 20 (.node 4 (.node 3 (.leaf 0 ⟨.other, 1, 0, []⟩) (.leaf 3 ⟨.int .i64, 1, 8, [.c (.int .i64 0)]⟩)) (.node 5 (.leaf 4 ⟨.bool, 1, 1, [.c (.bool false)]⟩) (.node 9 (.leaf 5 ⟨.int .u8, 1, 1, [.c (.int .u8 0)]⟩) (.leaf 9 ⟨.str, 1, 16, [.c (.string ⟨#[]⟩)]⟩)))) (.node 26 (.node 22 (.leaf 20 ⟨.other, 1, 16, [.c .nilIface]⟩) (.node 25 (.leaf 22 ⟨.slice 45, 1, 24, [.c (.slice none 0 0)]⟩) (.leaf 25 ⟨.ptr 62, 1, 8, [.c (.pointer none)]⟩))) (.node 27 (.leaf 26 ⟨.int .i64, 1, 8, [.c (.int .i64 0)]⟩) (.node 29 (.leaf 27 ⟨.other, 1, 0, []⟩) (.leaf 29 ⟨.ptr 73, 1, 8, [.c (.pointer none)]⟩))))) (.node 40 (.node 37 (.node 33 (.leaf 30 ⟨.other, 1, 0, []⟩) (.node 36 (.leaf 33 ⟨.struct [(0, 3), (1, 3), (2, 3), (3, 3), (4, 3), (5, 3), (6, 3), (7, 3)], 8, 64, [.c (.int .i64 0), .c (.int .i64 0), .c (.int .i64 0), .c (.int .i64 0), .c (.int .i64 0), .c (.int .i64 0), .c (.int .i64 0), .c (.int .i64 0)]⟩) (.leaf 36 ⟨.array 32 5, 32, 32, [.d Dig.zero]⟩))) (.node 38 (.leaf 37 ⟨.slice 3, 1, 24, [.c (.slice none 0 0)]⟩) (.node 39 (.leaf 38 ⟨.slice 5, 1, 24, [.c (.slice none 0 0)]⟩) (.leaf 39 ⟨.slice 36, 1, 24, [.c (.slice none 0 0)]⟩)))) (.node 45 (.node 42 (.leaf 40 ⟨.slice 101, 1, 24, [.c (.slice none 0 0)]⟩) (.node 43 (.leaf 42 ⟨.struct [(0, 3), (1, 36), (33, 3), (34, 37), (35, 38), (36, 39), (37, 40), (38, 4)], 39, 152, [.c (.int .i64 0), .d Dig.zero, .c (.int .i64 0), .c (.slice none 0 0), .c (.slice none 0 0), .c (.slice none 0 0), .c (.slice none 0 0), .c (.bool false)]⟩) (.leaf 43 ⟨.int .u64, 1, 8, [.c (.int .u64 0)]⟩))) (.node 46 (.leaf 45 ⟨.struct [(0, 3), (1, 3), (2, 3), (3, 3), (4, 3), (5, 3), (6, 42), (45, 36), (77, 38), (78, 43)], 79, 264, [.c (.int .i64 0), .c (.int .i64 0), .c (.int .i64 0), .c (.int .i64 0), .c (.int .i64 0), .c (.int .i64 0), .c (.int .i64 0), .d Dig.zero, .c (.int .i64 0), .c (.slice none 0 0), .c (.slice none 0 0), .c (.slice none 0 0), .c (.slice none 0 0), .c (.bool false), .d Dig.zero, .c (.slice none 0 0), .c (.int .u64 0)]⟩) (.node 47 (.leaf 46 ⟨.slice 56, 1, 24, [.c (.slice none 0 0)]⟩) (.leaf 47 ⟨.other, 1, 0, []⟩))))))
def tabTryzllr : Tr := (.node 70 (.node 64 (.node 59 (.node 56 (.leaf 52 ⟨.slice 107, 1, 24, [.c (.slice none 0 0)]⟩) (.node 58 (.leaf 56 ⟨.struct [(0, 3), (1, 42)], 40, 160, [.c (.int .i64 0), .c (.int .i64 0), .d Dig.zero, .c (.int .i64 0), .c (.slice none 0 0), .c (.slice none 0 0), .c (.slice none 0 0), .c (.slice none 0 0), .c (.bool false)]⟩) (.leaf 58 ⟨.map 9 221, 1, 8, [.c (.map none)]⟩))) (.node 60 (.leaf 59 ⟨.slice 58, 1, 24, [.c (.slice none 0 0)]⟩) (.node 62 (.leaf 60 ⟨.slice 370, 1, 24, [.c (.slice none 0 0)]⟩) (.leaf 62 ⟨.struct [(0, 3), (1, 58), (2, 59), (3, 60), (4, 38), (5, 4)], 6, 96, [.c (.int .i64 0), .c (.map none), .c (.slice none 0 0), .c (.slice none 0 0), .c (.slice none 0 0), .c (.bool false)]⟩)))) (.node 67 (.node 65 (.leaf 64 ⟨.map 36 104, 1, 8, [.c (.map none)]⟩) (.node 66 (.leaf 65 ⟨.map 3 161, 1, 8, [.c (.map none)]⟩) (.leaf 66 ⟨.ptr 120, 1, 8, [.c (.pointer none)]⟩))) (.node 68 (.leaf 67 ⟨.ptr 131, 1, 8, [.c (.pointer none)]⟩) (.node 69 (.leaf 68 ⟨.ptr 143, 1, 8, [.c (.pointer none)]⟩) (.leaf 69 ⟨.ptr 146, 1, 8, [.c (.pointer none)]⟩))))) (.node 79 (.node 74 (.node 71 (.leaf 70 ⟨.ptr 149, 1, 8, [.c (.pointer none)]⟩) (.node 73 (.leaf 71 ⟨.slice 93, 1, 24, [.c (.slice none 0 0)]⟩) (.leaf 73 ⟨.struct [(0, 3), (1, 33), (9, 66), (10, 67), (11, 68), (12, 69), (13, 70), (14, 71), (15, 64), (16, 65), (17, 4)], 18, 160, [.c (.int .i64 0), .c (.int .i64 0), .c (.int .i64 0), .c (.int .i64 0), .c (.int .i64 0), .c (.int .i64 0), .c (.int .i64 0), .c (.int .i64 0), .c (.int .i64 0), .c (.pointer none), .c (.pointer none), .c (.pointer none), .c (.pointer none), .c (.pointer none), .c (.slice none 0 0), .c (.map none), .c (.map none), .c (.bool false)]⟩))) (.node 76 (.leaf 74 ⟨.other, 1, 0, []⟩) (.node 77 (.leaf 76 ⟨.other, 1, 8, [.c .nilFunc]⟩) (.leaf 77 ⟨.other, 1, 0, []⟩)))) (.node 85 (.node 81 (.leaf 79 ⟨.other, 1, 0, []⟩) (.node 83 (.leaf 81 ⟨.other, 1, 0, []⟩) (.leaf 83 ⟨.other, 1, 0, []⟩))) (.node 86 (.leaf 85 ⟨.ptr 192, 1, 8, [.c (.pointer none)]⟩) (.node 88 (.leaf 86 ⟨.other, 1, 0, []⟩) (.leaf 88 ⟨.array 6 76, 6, 48, [.c .nilFunc, .c .nilFunc, .c .nilFunc, .c .nilFunc, .c .nilFunc, .c .nilFunc]⟩))))))
def tabTryzll : Tr := .node 52 tabTryzlll tabTryzllr
def tabTryzlrl : Tr := (.node 116 (.node 104 (.node 97 (.node 93 (.leaf 89 ⟨.other, 1, 0, []⟩) (.node 94 (.leaf 93 ⟨.ptr 116, 1, 8, [.c (.pointer none)]⟩) (.leaf 94 ⟨.other, 1, 0, []⟩))) (.node 101 (.leaf 97 ⟨.other, 1, 0, []⟩) (.node 103 (.leaf 101 ⟨.struct [(0, 3), (1, 3), (2, 3), (3, 3)], 4, 32, [.c (.int .i64 0), .c (.int .i64 0), .c (.int .i64 0), .c (.int .i64 0)]⟩) (.leaf 103 ⟨.other, 1, 8, [.c .nilFunc]⟩)))) (.node 109 (.node 105 (.leaf 104 ⟨.ptr 109, 1, 8, [.c (.pointer none)]⟩) (.node 107 (.leaf 105 ⟨.other, 1, 0, []⟩) (.leaf 107 ⟨.struct [(0, 36), (32, 3), (33, 3), (34, 36)], 66, 80, [.d Dig.zero, .c (.int .i64 0), .c (.int .i64 0), .d Dig.zero]⟩))) (.node 113 (.leaf 109 ⟨.struct [(0, 85), (1, 107), (67, 3), (68, 3)], 69, 104, [.c (.pointer none), .d Dig.zero, .c (.int .i64 0), .c (.int .i64 0), .d Dig.zero, .c (.int .i64 0), .c (.int .i64 0)]⟩) (.node 114 (.leaf 113 ⟨.other, 1, 8, [.c .nilFunc]⟩) (.leaf 114 ⟨.ptr 167, 1, 8, [.c (.pointer none)]⟩))))) (.node 127 (.node 121 (.node 118 (.leaf 116 ⟨.struct [(0, 36), (32, 114), (33, 3), (34, 26)], 35, 56, [.d Dig.zero, .c (.pointer none), .c (.int .i64 0), .c (.int .i64 0)]⟩) (.node 120 (.leaf 118 ⟨.map 36 107, 1, 8, [.c (.map none)]⟩) (.leaf 120 ⟨.struct [(0, 25), (1, 3), (2, 118), (3, 4)], 4, 32, [.c (.pointer none), .c (.int .i64 0), .c (.map none), .c (.bool false)]⟩))) (.node 125 (.leaf 121 ⟨.slice 9, 1, 24, [.c (.slice none 0 0)]⟩) (.node 126 (.leaf 125 ⟨.ptr 239, 1, 8, [.c (.pointer none)]⟩) (.leaf 126 ⟨.slice 38, 1, 24, [.c (.slice none 0 0)]⟩)))) (.node 133 (.node 129 (.leaf 127 ⟨.other, 1, 0, []⟩) (.node 131 (.leaf 129 ⟨.slice 133, 1, 24, [.c (.slice none 0 0)]⟩) (.leaf 131 ⟨.struct [(0, 66), (1, 125), (2, 129), (3, 4)], 4, 48, [.c (.pointer none), .c (.pointer none), .c (.slice none 0 0), .c (.bool false)]⟩))) (.node 135 (.leaf 133 ⟨.ptr 138, 1, 8, [.c (.pointer none)]⟩) (.node 136 (.leaf 135 ⟨.ptr 307, 1, 8, [.c (.pointer none)]⟩) (.leaf 136 ⟨.map 3 39, 1, 8, [.c (.map none)]⟩))))))
def tabTryzlrr : Tr := (.node 163 (.node 149 (.node 144 (.node 141 (.leaf 138 ⟨.struct [(0, 107), (66, 135), (67, 136)], 68, 96, [.d Dig.zero, .c (.int .i64 0), .c (.int .i64 0), .d Dig.zero, .c (.pointer none), .c (.map none)]⟩) (.node 143 (.leaf 141 ⟨.map 3 101, 1, 8, [.c (.map none)]⟩) (.leaf 143 ⟨.struct [(0, 101), (4, 3), (5, 141)], 6, 48, [.c (.int .i64 0), .c (.int .i64 0), .c (.int .i64 0), .c (.int .i64 0), .c (.int .i64 0), .c (.map none)]⟩))) (.node 146 (.leaf 144 ⟨.map 3 153, 1, 8, [.c (.map none)]⟩) (.node 147 (.leaf 146 ⟨.struct [(0, 3), (1, 3), (2, 3), (3, 144)], 4, 32, [.c (.int .i64 0), .c (.int .i64 0), .c (.int .i64 0), .c (.map none)]⟩) (.leaf 147 ⟨.map 3 4, 1, 8, [.c (.map none)]⟩)))) (.node 157 (.node 153 (.leaf 149 ⟨.struct [(0, 3), (1, 3), (2, 3), (3, 3), (4, 147)], 5, 40, [.c (.int .i64 0), .c (.int .i64 0), .c (.int .i64 0), .c (.int .i64 0), .c (.map none)]⟩) (.node 155 (.leaf 153 ⟨.struct [(0, 3), (1, 3), (2, 3), (3, 3)], 4, 32, [.c (.int .i64 0), .c (.int .i64 0), .c (.int .i64 0), .c (.int .i64 0)]⟩) (.leaf 155 ⟨.slice 163, 1, 24, [.c (.slice none 0 0)]⟩))) (.node 158 (.leaf 157 ⟨.other, 1, 8, [.c .nilFunc]⟩) (.node 161 (.leaf 158 ⟨.other, 1, 8, [.c .nilFunc]⟩) (.leaf 161 ⟨.struct [(0, 3), (1, 4)], 2, 16, [.c (.int .i64 0), .c (.bool false)]⟩))))) (.node 185 (.node 173 (.node 167 (.leaf 163 ⟨.struct [(0, 3), (1, 3), (2, 4)], 3, 24, [.c (.int .i64 0), .c (.int .i64 0), .c (.bool false)]⟩) (.node 170 (.leaf 167 ⟨.struct [(0, 52)], 1, 24, [.c (.slice none 0 0)]⟩) (.leaf 170 ⟨.other, 1, 8, [.c .nilFunc]⟩))) (.node 174 (.leaf 173 ⟨.other, 1, 8, [.c .nilFunc]⟩) (.node 184 (.leaf 174 ⟨.ptr 275, 1, 8, [.c (.pointer none)]⟩) (.leaf 184 ⟨.ptr 161, 1, 8, [.c (.pointer none)]⟩)))) (.node 189 (.node 187 (.leaf 185 ⟨.other, 1, 8, [.c .nilFunc]⟩) (.node 188 (.leaf 187 ⟨.struct [(0, 3), (1, 3), (2, 3)], 3, 24, [.c (.int .i64 0), .c (.int .i64 0), .c (.int .i64 0)]⟩) (.leaf 188 ⟨.other, 1, 0, []⟩))) (.node 190 (.leaf 189 ⟨.ptr 347, 1, 8, [.c (.pointer none)]⟩) (.node 192 (.leaf 190 ⟨.ptr 292, 1, 8, [.c (.pointer none)]⟩) (.leaf 192 ⟨.struct [(0, 3), (1, 189), (2, 190)], 3, 24, [.c (.int .i64 0), .c (.pointer none), .c (.pointer none)]⟩))))))
def tabTryzlr : Tr := .node 138 tabTryzlrl tabTryzlrr
def tabTryzl : Tr := .node 89 tabTryzll tabTryzlr
def tabTryzrll : Tr := (.node 222 (.node 211 (.node 200 (.node 196 (.leaf 194 ⟨.other, 1, 0, []⟩) (.node 198 (.leaf 196 ⟨.other, 1, 0, []⟩) (.leaf 198 ⟨.other, 1, 0, []⟩))) (.node 202 (.leaf 200 ⟨.other, 1, 0, []⟩) (.node 207 (.leaf 202 ⟨.other, 1, 0, []⟩) (.leaf 207 ⟨.other, 1, 0, []⟩)))) (.node 218 (.node 214 (.leaf 211 ⟨.other, 1, 0, []⟩) (.node 215 (.leaf 214 ⟨.other, 1, 8, [.c .nilFunc]⟩) (.leaf 215 ⟨.other, 1, 0, []⟩))) (.node 219 (.leaf 218 ⟨.other, 1, 8, [.c .nilFunc]⟩) (.node 221 (.leaf 219 ⟨.other, 1, 8, [.c .nilFunc]⟩) (.leaf 221 ⟨.ptr 326, 1, 8, [.c (.pointer none)]⟩))))) (.node 235 (.node 230 (.node 224 (.leaf 222 ⟨.slice 76, 1, 24, [.c (.slice none 0 0)]⟩) (.node 229 (.leaf 224 ⟨.other, 1, 0, []⟩) (.leaf 229 ⟨.other, 1, 8, [.c .nilFunc]⟩))) (.node 232 (.leaf 230 ⟨.other, 1, 0, []⟩) (.node 234 (.leaf 232 ⟨.other, 1, 0, []⟩) (.leaf 234 ⟨.other, 1, 8, [.c .nilFunc]⟩)))) (.node 247 (.node 239 (.leaf 235 ⟨.other, 1, 8, [.c .nilFunc]⟩) (.node 240 (.leaf 239 ⟨.struct [(0, 25), (1, 9), (2, 3), (3, 3), (4, 3), (5, 4)], 6, 56, [.c (.pointer none), .c (.string ⟨#[]⟩), .c (.int .i64 0), .c (.int .i64 0), .c (.int .i64 0), .c (.bool false)]⟩) (.leaf 240 ⟨.other, 1, 0, []⟩))) (.node 250 (.leaf 247 ⟨.other, 1, 0, []⟩) (.node 255 (.leaf 250 ⟨.other, 1, 8, [.c .nilFunc]⟩) (.leaf 255 ⟨.other, 1, 0, []⟩))))))
def tabTryzrlr : Tr := (.node 300 (.node 289 (.node 265 (.node 261 (.leaf 257 ⟨.other, 1, 0, []⟩) (.node 264 (.leaf 261 ⟨.other, 1, 0, []⟩) (.leaf 264 ⟨.slice 187, 1, 24, [.c (.slice none 0 0)]⟩))) (.node 275 (.leaf 265 ⟨.other, 1, 0, []⟩) (.node 276 (.leaf 275 ⟨.struct [(0, 43)], 1, 8, [.c (.int .u64 0)]⟩) (.leaf 276 ⟨.other, 1, 0, []⟩)))) (.node 293 (.node 290 (.leaf 289 ⟨.other, 1, 0, []⟩) (.node 292 (.leaf 290 ⟨.map 3 187, 1, 8, [.c (.map none)]⟩) (.leaf 292 ⟨.struct [(0, 3), (1, 3), (2, 3), (3, 290)], 4, 32, [.c (.int .i64 0), .c (.int .i64 0), .c (.int .i64 0), .c (.map none)]⟩))) (.node 294 (.leaf 293 ⟨.slice 297, 1, 24, [.c (.slice none 0 0)]⟩) (.node 297 (.leaf 294 ⟨.other, 1, 0, []⟩) (.leaf 297 ⟨.struct [(0, 3), (1, 38)], 2, 32, [.c (.int .i64 0), .c (.slice none 0 0)]⟩))))) (.node 319 (.node 308 (.node 305 (.leaf 300 ⟨.other, 1, 0, []⟩) (.node 307 (.leaf 305 ⟨.slice 43, 1, 24, [.c (.slice none 0 0)]⟩) (.leaf 307 ⟨.struct [(0, 3), (1, 305)], 2, 32, [.c (.int .i64 0), .c (.slice none 0 0)]⟩))) (.node 313 (.leaf 308 ⟨.other, 1, 0, []⟩) (.node 317 (.leaf 313 ⟨.other, 1, 0, []⟩) (.leaf 317 ⟨.other, 1, 8, [.c .nilFunc]⟩)))) (.node 324 (.node 321 (.leaf 319 ⟨.int .u32, 1, 4, [.c (.int .u32 0)]⟩) (.node 323 (.leaf 321 ⟨.array 8 319, 8, 32, [.c (.int .u32 0), .c (.int .u32 0), .c (.int .u32 0), .c (.int .u32 0), .c (.int .u32 0), .c (.int .u32 0), .c (.int .u32 0), .c (.int .u32 0)]⟩) (.leaf 323 ⟨.int .u64, 1, 8, [.c (.int .u64 0)]⟩))) (.node 326 (.leaf 324 ⟨.other, 1, 0, []⟩) (.node 327 (.leaf 326 ⟨.struct [(0, 38), (1, 38)], 2, 48, [.c (.slice none 0 0), .c (.slice none 0 0)]⟩) (.leaf 327 ⟨.other, 1, 8, [.c .nilFunc]⟩))))))
def tabTryzrl : Tr := .node 257 tabTryzrll tabTryzrlr
def tabTryzrrl : Tr := (.node 381 (.node 354 (.node 341 (.node 336 (.leaf 328 ⟨.other, 1, 0, []⟩) (.node 337 (.leaf 336 ⟨.other, 1, 8, [.c .nilFunc]⟩) (.leaf 337 ⟨.other, 1, 0, []⟩))) (.node 345 (.leaf 341 ⟨.other, 1, 0, []⟩) (.node 347 (.leaf 345 ⟨.map 3 135, 1, 8, [.c (.map none)]⟩) (.leaf 347 ⟨.struct [(0, 3), (1, 3), (2, 345), (3, 37)], 4, 48, [.c (.int .i64 0), .c (.int .i64 0), .c (.map none), .c (.slice none 0 0)]⟩)))) (.node 370 (.node 357 (.leaf 354 ⟨.other, 1, 8, [.c .nilFunc]⟩) (.node 366 (.leaf 357 ⟨.other, 1, 8, [.c .nilFunc]⟩) (.leaf 366 ⟨.map 36 4, 1, 8, [.c (.map none)]⟩))) (.node 377 (.leaf 370 ⟨.struct [(0, 221), (1, 3), (2, 38)], 3, 40, [.c (.pointer none), .c (.int .i64 0), .c (.slice none 0 0)]⟩) (.node 378 (.leaf 377 ⟨.other, 1, 8, [.c .nilFunc]⟩) (.leaf 378 ⟨.other, 1, 8, [.c .nilFunc]⟩))))) (.node 399 (.node 387 (.node 382 (.leaf 381 ⟨.other, 1, 8, [.c .nilFunc]⟩) (.node 385 (.leaf 382 ⟨.other, 1, 8, [.c .nilFunc]⟩) (.leaf 385 ⟨.other, 1, 8, [.c .nilFunc]⟩))) (.node 390 (.leaf 387 ⟨.other, 1, 0, []⟩) (.node 395 (.leaf 390 ⟨.other, 1, 0, []⟩) (.leaf 395 ⟨.other, 1, 0, []⟩)))) (.node 410 (.node 402 (.leaf 399 ⟨.other, 1, 8, [.c .nilFunc]⟩) (.node 408 (.leaf 402 ⟨.array 64 319, 64, 256, [.c (.int .u32 0), .c (.int .u32 0), .c (.int .u32 0), .c (.int .u32 0), .c (.int .u32 0), .c (.int .u32 0), .c (.int .u32 0), .c (.int .u32 0), .c (.int .u32 0), .c (.int .u32 0), .c (.int .u32 0), .c (.int .u32 0), .c (.int .u32 0), .c (.int .u32 0), .c (.int .u32 0), .c (.int .u32 0), .c (.int .u32 0), .c (.int .u32 0), .c (.int .u32 0), .c (.int .u32 0), .c (.int .u32 0), .c (.int .u32 0), .c (.int .u32 0), .c (.int .u32 0), .c (.int .u32 0), .c (.int .u32 0), .c (.int .u32 0), .c (.int .u32 0), .c (.int .u32 0), .c (.int .u32 0), .c (.int .u32 0), .c (.int .u32 0), .c (.int .u32 0), .c (.int .u32 0), .c (.int .u32 0), .c (.int .u32 0), .c (.int .u32 0), .c (.int .u32 0), .c (.int .u32 0), .c (.int .u32 0), .c (.int .u32 0), .c (.int .u32 0), .c (.int .u32 0), .c (.int .u32 0), .c (.int .u32 0), .c (.int .u32 0), .c (.int .u32 0), .c (.int .u32 0), .c (.int .u32 0), .c (.int .u32 0), .c (.int .u32 0), .c (.int .u32 0), .c (.int .u32 0), .c (.int .u32 0), .c (.int .u32 0), .c (.int .u32 0), .c (.int .u32 0), .c (.int .u32 0), .c (.int .u32 0), .c (.int .u32 0), .c (.int .u32 0), .c (.int .u32 0), .c (.int .u32 0), .c (.int .u32 0)]⟩) (.leaf 408 ⟨.other, 1, 8, [.c .nilFunc]⟩))) (.node 412 (.leaf 410 ⟨.other, 1, 0, []⟩) (.node 413 (.leaf 412 ⟨.other, 1, 8, [.c .nilFunc]⟩) (.leaf 413 ⟨.other, 1, 8, [.c .nilFunc]⟩))))))
def tabTryzrrr : Tr := (.node 452 (.node 440 (.node 436 (.node 419 (.leaf 418 ⟨.int .i64, 1, 8, [.c (.int .i64 0)]⟩) (.node 430 (.leaf 419 ⟨.other, 1, 0, []⟩) (.leaf 430 ⟨.other, 1, 8, [.c .nilFunc]⟩))) (.node 437 (.leaf 436 ⟨.other, 1, 8, [.c .nilFunc]⟩) (.node 439 (.leaf 437 ⟨.slice 153, 1, 24, [.c (.slice none 0 0)]⟩) (.leaf 439 ⟨.other, 1, 8, [.c .nilFunc]⟩)))) (.node 447 (.node 443 (.leaf 440 ⟨.other, 1, 8, [.c .nilFunc]⟩) (.node 444 (.leaf 443 ⟨.other, 1, 8, [.c .nilFunc]⟩) (.leaf 444 ⟨.other, 1, 8, [.c .nilFunc]⟩))) (.node 449 (.leaf 447 ⟨.other, 1, 8, [.c .nilFunc]⟩) (.node 450 (.leaf 449 ⟨.other, 1, 8, [.c .nilFunc]⟩) (.leaf 450 ⟨.other, 1, 8, [.c .nilFunc]⟩))))) (.node 480 (.node 466 (.node 453 (.leaf 452 ⟨.other, 1, 8, [.c .nilFunc]⟩) (.node 463 (.leaf 453 ⟨.other, 1, 8, [.c .nilFunc]⟩) (.leaf 463 ⟨.other, 1, 0, []⟩))) (.node 469 (.leaf 466 ⟨.int .u64, 1, 8, [.c (.int .u64 0)]⟩) (.node 477 (.leaf 469 ⟨.ptr 3, 1, 8, [.c (.pointer none)]⟩) (.leaf 477 ⟨.other, 1, 0, []⟩)))) (.node 489 (.node 484 (.leaf 480 ⟨.other, 1, 8, [.c .nilFunc]⟩) (.node 487 (.leaf 484 ⟨.other, 1, 8, [.c .nilFunc]⟩) (.leaf 487 ⟨.other, 1, 0, []⟩))) (.node 490 (.leaf 489 ⟨.ptr 466, 1, 8, [.c (.pointer none)]⟩) (.node 494 (.leaf 490 ⟨.other, 1, 0, []⟩) (.leaf 494 ⟨.array 64 5, 64, 64, [.c (.int .u8 0), .c (.int .u8 0), .c (.int .u8 0), .c (.int .u8 0), .c (.int .u8 0), .c (.int .u8 0), .c (.int .u8 0), .c (.int .u8 0), .c (.int .u8 0), .c (.int .u8 0), .c (.int .u8 0), .c (.int .u8 0), .c (.int .u8 0), .c (.int .u8 0), .c (.int .u8 0), .c (.int .u8 0), .c (.int .u8 0), .c (.int .u8 0), .c (.int .u8 0), .c (.int .u8 0), .c (.int .u8 0), .c (.int .u8 0), .c (.int .u8 0), .c (.int .u8 0), .c (.int .u8 0), .c (.int .u8 0), .c (.int .u8 0), .c (.int .u8 0), .c (.int .u8 0), .c (.int .u8 0), .c (.int .u8 0), .c (.int .u8 0), .c (.int .u8 0), .c (.int .u8 0), .c (.int .u8 0), .c (.int .u8 0), .c (.int .u8 0), .c (.int .u8 0), .c (.int .u8 0), .c (.int .u8 0), .c (.int .u8 0), .c (.int .u8 0), .c (.int .u8 0), .c (.int .u8 0), .c (.int .u8 0), .c (.int .u8 0), .c (.int .u8 0), .c (.int .u8 0), .c (.int .u8 0), .c (.int .u8 0), .c (.int .u8 0), .c (.int .u8 0), .c (.int .u8 0), .c (.int .u8 0), .c (.int .u8 0), .c (.int .u8 0), .c (.int .u8 0), .c (.int .u8 0), .c (.int .u8 0), .c (.int .u8 0), .c (.int .u8 0), .c (.int .u8 0), .c (.int .u8 0), .c (.int .u8 0)]⟩))))))
def tabTryzrr : Tr := .node 418 tabTryzrrl tabTryzrrr
def tabTryzr : Tr := .node 328 tabTryzrl tabTryzrr
def tabTryz : Tr := .node 194 tabTryzl tabTryzr
theorem tabTryz_all : tabTryz.all (rowOk Go.Proofs.Tryz.prog) = true := by kernel_rfl
instance tabTryzI : Tab Go.Proofs.Tryz.prog := ⟨tabTryz.get, fun _ _ h => rowOk_ok (Tr.get_all tabTryz_all h)⟩
end Go.SX

namespace Go.SX
theorem OSat.perm {m m' : List Ent} (p : m.Perm m') : ∀ {h : Hp}, OSat m h → OSat m' h := by
  induction p with
  | nil => exact fun h => h
  | cons x _ ih => exact fun ⟨h1, h2, d, s1, s2, he, o⟩ => ⟨h1, h2, d, s1, s2, he, ih o⟩
  | swap x y l => exact fun o => OSat.pick (.tail .head) o
  | trans _ _ ih1 ih2 => exact fun o => ih2 (ih1 o)
theorem MSat.perm {K H : Hp} {m m' : List Ent} (p : m.Perm m') (s : MSat K m H) : MSat K m' H := by
  obtain ⟨h, d, s1, s2, o⟩ := s; exact ⟨h, d, s1, s2, OSat.perm p o⟩
theorem TR.perm {P : Program} {K : Hp} {f : FuncId} {args : List SV1} {mem mem' : List Ent} {Q : SV → List Ent → Prop} (p : mem'.Perm mem) (h : TR P K f args mem Q) : TR P K f args mem' Q :=
  ⟨h.can, fun w s => h.run w (s.perm p)⟩
theorem Take.skip {x : Ent} {m M r : List Ent} (t : Take m M r) : Take (x :: m) M (x :: r) := by
  induction t with
  | nil => exact .nil
  | cons p _ ih => exact .cons (.tail p) ih
theorem Pick.mid : ∀ {M r : List Ent} {e : Ent}, Pick (M ++ e :: r) e (M ++ r)
  | [], _, _ => .head
  | _ :: _, _, _ => .tail .mid
theorem Take.all : ∀ {m : List Ent}, Take m m []
  | [] => .nil
  | _ :: _ => .cons .head .all
section
variable {P : Program} [Tab P] {N : Nat} {cx : Cx P N} {K : Hp} {ds : List Deferred} {k : List Item} {env : Env} {mem : List Ent} {rg : Rg} {H : List HE} {R : List (Nat × Oper)} {i : Nat} {o : Oper}
theorem sxo_perm {mem' : List Ent} (p : mem.Perm mem') (h : SXo cx K ds rg H R k env mem') : SXo cx K ds rg H R k env mem := fun hR a w Hs s hH => h hR a w Hs ⟨s.ds, s.size, s.env, s.mem.perm p, s.os, s.out⟩ hH
theorem sx_perm {mem' : List Ent} (p : mem.Perm mem') (h : SX cx K ds k env mem') : SX cx K ds k env mem := fun a w s => h a w ⟨s.ds, s.size, s.env, s.mem.perm p, s.os, s.out⟩
/-- What memory tells. -/
theorem sx_fact {Q : Prop} (hq : ∀ w, MSat K mem (vw w) → Q) (h : Q → SX cx K ds k env mem) : SX cx K ds k env mem := fun a w s => h (hq w s.mem) a w s
theorem sxo_fact {Q : Prop} (hq : ∀ w, MSat K mem (vw w) → Q) (h : Q → SXo cx K ds rg H R k env mem) : SXo cx K ds rg H R k env mem := fun hR a w Hs s hH => h (hq w s.mem) hR a w Hs s hH
/-- A loop, with what holds at each round's head. -/
theorem sx_loopI.{u} {γ : Type u} {body : Code} (I : γ → Prop) (μ : γ → Nat) (E : γ → Env) (M : γ → List Ent) (x0 : γ) (h0 : I x0)
    (h : ∀ x, I x → (∀ y, I y → μ y < μ x → SX cx K ds (.inLoop body :: k) (E y) (M y)) → SX cx K ds (.code body :: .inLoop body :: k) (E x) (M x)) :
    SX cx K ds (.code (.loop body) :: k) (E x0) (M x0) :=
  sx_loop (γ := { x : γ // I x }) (fun x => μ x.1) (fun x => E x.1) (fun x => M x.1) ⟨x0, h0⟩ fun x ih => h x.1 x.2 fun y hy hl => ih ⟨y, hy⟩ hl
/-- A call of a function value; what it turned stands last. -/
theorem sxo_callVR {cal : Operand} {as1 : Array Operand} {ts : Array TypeId} {Y : Value} {vs : List SV1} {M r : List Ent} {Q : SV → List Ent → Prop}
    (ho : o.op = .call { callee := .value cal, args := as1, argTypes := ts }) (hg : guardE rg.ops o env = some true) (hc : ev env cal = some (.s (.o Y))) (ha : evs env as1.toList = some vs)
    (hM : Take mem M r) (hd : dstOk N o.dst = true) (hl : rg.lt P i = false)
    (ht : ∀ Kc, Sub K Kc → Beside r Kc → TRV P Kc Y vs M Q)
    (h : ∀ v m, Q v m → SXo cx K ds rg H R k (setE env o.dst v) (r ++ m)) (hH : ∀ v m, Q v m → ∀ x ∈ H, rg.fr P x.idx i = true → x.chk (m ++ r) := by intro _ _ _; repeat (first | exact hh_nil | refine hh_free rfl ?_ | refine hh_chk ⟨_, _, _, (by first | exact .head | exact .tail .head | exact .tail (.tail .head) | exact .tail (.tail (.tail .head)) | exact .tail (.tail (.tail (.tail .head)))), (by rfl)⟩ ?_ | refine hh_chk trivial ?_)) :
    SXo cx K ds rg H ((i, o) :: R) k env mem :=
  sxo_callV ho hg hc ha hM hd hl ht (fun v m q => sxo_perm List.perm_append_comm (h v m q)) hH
end
/-- A closure that, called with a yield that never says no, yields the elements of a list that is so, B at most. -/
def SeqV (P : Program) (K : Hp) (f : FuncId) (cap : List SV1) (M : List Ent) {κ : Type} (e : κ → SV1) (B : Nat) (Pm : List κ → Prop) : Prop :=
  ∀ Kc, Sub K Kc → ∀ (Y : Value) (I : List κ → List Ent → Prop) (m0 : List Ent), I [] m0 →
    (∀ K', Sub Kc K' → ∀ pre k m, pre.length < B → I pre m → TRV P K' Y [e k] m fun v m' => v = .s (.o (.bool true)) ∧ I (pre ++ [k]) m') →
    TR P Kc f (.o Y :: cap) (M ++ m0) fun _ m => ∃ l m', Pm l ∧ I l m' ∧ m = M ++ m'
/-- How far a range has come: the places seen, what the yield's own memory is. -/
structure ItS (α : Type) (l : List α) (I : List α → List Ent → Prop) where
  seen : List Nat
  m : List Ent
  hn : seen.Nodup
  hlt : ∀ j ∈ seen, j < l.length
  hI : I (seen.filterMap fun j => l[j]?) m
theorem nodup_lt {seen : List Nat} {n : Nat} (hn : seen.Nodup) (hlt : ∀ j ∈ seen, j < n) : seen.length ≤ n := by
  have := List.Nodup.length_le_of_subset (l₁ := seen) (l₂ := List.range n) hn (fun i hi => List.mem_range.2 (hlt i hi))
  simpa using this
/-- One place more. -/
theorem ItS.next {α : Type} {l : List α} {I : List α → List Ent → Prop} (x : ItS α l I) {j : Nat} {a : α} (hj : l[j]? = some a) (hs : j ∉ x.seen) {m' : List Ent} (hI : I ((x.seen.filterMap fun j => l[j]?) ++ [a]) m') :
    ∃ y : ItS α l I, y.seen = x.seen ++ [j] ∧ y.m = m' ∧ l.length - y.seen.length < l.length - x.seen.length := by
  have h1 : (x.seen ++ [j]).Nodup := List.nodup_append.2 ⟨x.hn, by simp, fun a ha b' hb' => by simp at hb'; subst hb'; exact fun hc => hs (hc ▸ ha)⟩
  have h2 : ∀ i ∈ x.seen ++ [j], i < l.length := fun i hi => by
    rcases List.mem_append.1 hi with h | h
    · exact x.hlt i h
    · simp at h; subst h; exact (List.getElem?_eq_some_iff.1 hj).1
  refine ⟨⟨x.seen ++ [j], m', h1, h2, by simpa [List.filterMap_append, hj] using hI⟩, rfl, rfl, ?_⟩
  have := nodup_lt h1 h2
  simp at this ⊢; omega
theorem ItS.short {α : Type} {l : List α} {I : List α → List Ent → Prop} (x : ItS α l I) {j : Nat} (hj : j < l.length) (hs : j ∉ x.seen) : (x.seen.filterMap fun j => l[j]?).length < l.length := by
  have h1 : (x.seen ++ [j]).Nodup := List.nodup_append.2 ⟨x.hn, by simp, fun a ha b' hb' => by simp at hb'; subst hb'; exact fun hc => hs (hc ▸ ha)⟩
  have := nodup_lt h1 (n := l.length) fun i hi => by
    rcases List.mem_append.1 hi with h | h
    · exact x.hlt i h
    · simp at h; subst h; exact hj
  have h2 := List.length_filterMap_le (fun j => l[j]?) x.seen
  simp at this; omega
/-- Places seen, each once. -/
def Seen (n : Nat) (seen : List Nat) : Prop := seen.Nodup ∧ ∀ j ∈ seen, j < n
theorem Seen.nil (n : Nat) : Seen n [] := ⟨List.nodup_nil, fun _ h => absurd h List.not_mem_nil⟩
theorem Seen.next {n : Nat} {seen : List Nat} (s : Seen n seen) {j : Nat} (hj : j < n) (hs : j ∉ seen) : Seen n (seen ++ [j]) ∧ seen.length < n := by
  have h1 : (seen ++ [j]).Nodup := List.nodup_append.2 ⟨s.1, by simp, fun a ha b' hb' => by simp at hb'; subst hb'; exact fun hc => hs (hc ▸ ha)⟩
  have h2 : ∀ i ∈ seen ++ [j], i < n := fun i hi => by
    rcases List.mem_append.1 hi with h | h
    · exact s.2 i h
    · simp at h; subst h; exact hj
  have := nodup_lt h1 h2
  exact ⟨⟨h1, h2⟩, by simp at this; omega⟩
theorem fm_range {α : Type} : ∀ (m : List α), (List.range m.length).filterMap (fun j => m[j]?) = m := by
  intro m
  induction m with
  | nil => rfl
  | cons a m ih =>
    rw [List.length_cons, List.range_succ_eq_map, List.filterMap_cons]
    simp only [List.getElem?_cons_zero, List.filterMap_map]
    congr 1
theorem seen_perm {α : Type} {m : List α} {seen : List Nat} (hn : seen.Nodup) (hlt : ∀ j ∈ seen, j < m.length) (hall : ∀ j, j < m.length → j ∈ seen) : (seen.filterMap fun j => m[j]?).Perm m := by
  have h1 : seen.Perm (List.range m.length) := (List.perm_ext_iff_of_nodup hn List.nodup_range).2 fun j => by
    rw [List.mem_range]; exact ⟨hlt j, hall j⟩
  have h2 := h1.filterMap fun j => m[j]?
  rw [fm_range] at h2; exact h2
end Go.SX
