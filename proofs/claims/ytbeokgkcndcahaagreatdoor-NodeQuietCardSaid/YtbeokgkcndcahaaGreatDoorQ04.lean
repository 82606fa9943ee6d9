/-
  Partial heaps, and what memory holds: plain facts on heaps, no program in sight.
  A region whose order is open: one walk, in an order of one's own choosing (a plan), serves every order. What is read early, and may come later in truth, is asked anew behind each operation that acts and may come before it.
  The symbolic state of a walk, what it says of the machine, and the steps of control.
-/
import Derived.AtR
import Derived.CallsIn
import Derived.Orders
import Derived.RangeFuncIn
import Derived.Laws.Cells
import Derived.Laws.CopyRow
set_option linter.all false
namespace Go.SX

/-- A part of a heap: blocks by their numbers. -/
abbrev Hp := Nat → Option Obj
def vw (w : World) : Hp := fun b => w.heap[b]?
def Sub (h h' : Hp) : Prop := ∀ b o, h b = some o → h' b = some o
def Dj (h h' : Hp) : Prop := ∀ b o o', h b = some o → h' b = some o' → False
def un (h h' : Hp) : Hp := fun b => match h b with | some o => some o | none => h' b
def one (b : Nat) (o : Obj) : Hp := fun k => if k = b then some o else none
def emp : Hp := fun _ => none

theorem Sub.refl (h : Hp) : Sub h h := fun _ _ x => x
theorem Sub.trans {a b c : Hp} (h : Sub a b) (k : Sub b c) : Sub a c := fun x o y => k x o (h x o y)
theorem sub_un_left (h h' : Hp) : Sub h (un h h') := fun b o x => by simp [un, x]
theorem sub_un_right {h h' : Hp} (d : Dj h h') : Sub h' (un h h') := fun b o x => by
  unfold un
  cases e : h b with
  | none => exact x
  | some o' => exact (d b o' o e x).elim
theorem un_sub {h h' k : Hp} (a : Sub h k) (b : Sub h' k) : Sub (un h h') k := fun x o y => by
  unfold un at y
  cases e : h x with
  | none => rw [e] at y; exact b x o y
  | some o' => rw [e] at y; cases y; exact a x _ e
theorem Dj.symm {h h' : Hp} (d : Dj h h') : Dj h' h := fun b o o' x y => d b o' o y x
theorem Dj.mono {h h' k k' : Hp} (d : Dj h h') (a : Sub k h) (b : Sub k' h') : Dj k k' := fun x o o' p q => d x o o' (a x o p) (b x o' q)
theorem Dj.un_left {h h' k : Hp} (a : Dj h k) (b : Dj h' k) : Dj (un h h') k := fun x o o' p q => by
  unfold un at p
  cases e : h x with
  | none => rw [e] at p; exact b x o o' p q
  | some o'' => rw [e] at p; cases p; exact a x _ o' e q
theorem Dj.un_right {h k k' : Hp} (a : Dj h k) (b : Dj h k') : Dj h (un k k') := (Dj.un_left a.symm b.symm).symm
theorem Dj.emp_left (h : Hp) : Dj emp h := fun _ _ _ p _ => by simp [emp] at p
theorem sub_emp (h : Hp) : Sub emp h := fun _ _ p => by simp [emp] at p
theorem one_self (b : Nat) (o : Obj) : one b o b = some o := by simp [one]
theorem one_some {b k : Nat} {o o' : Obj} (h : one b o k = some o') : k = b ∧ o' = o := by
  unfold one at h
  by_cases e : k = b
  · simp [e] at h; exact ⟨e, h.symm⟩
  · simp [e] at h
theorem one_sub {b : Nat} {o : Obj} {h : Hp} (e : h b = some o) : Sub (one b o) h := fun k o' p => by
  obtain ⟨rfl, rfl⟩ := one_some p; exact e
theorem one_dj {b : Nat} {o : Obj} {h : Hp} (e : h b = none) : Dj (one b o) h := fun k o' o'' p q => by
  obtain ⟨rfl, rfl⟩ := one_some p; rw [e] at q; cases q

/-- Take the block 'b' out of a part. -/
def del (h : Hp) (b : Nat) : Hp := fun k => if k = b then none else h k
theorem del_sub (h : Hp) (b : Nat) : Sub (del h b) h := fun k o p => by
  unfold del at p; by_cases e : k = b <;> simp [e] at p; exact p
theorem del_dj (h : Hp) (b : Nat) (o : Obj) : Dj (one b o) (del h b) := one_dj (by simp [del])

/-! ### The world's own moves -/
theorem vw_lt {w : World} {b : Nat} {o : Obj} (h : vw w b = some o) : b < w.heap.size := by
  unfold vw at h
  exact (Array.getElem?_eq_some_iff.1 h).1
theorem vw_push (w : World) (o : Obj) : vw { w with heap := w.heap.push o } = fun k => if k = w.heap.size then some o else vw w k := by
  funext k
  unfold vw
  simp only [Array.getElem?_push]
theorem vw_size (w : World) : vw w w.heap.size = none := by simp [vw]
theorem vw_setCell (w : World) (a : Addr) (v : Value) (c : Array Value) (t : TypeId) (fz : Nat × Nat) (hb : vw w a.block = some (.cells c t fz)) (hs : a.spot = none) :
    vw (w.setCell a v) = fun k => if k = a.block then some (.cells (c.setIfInBounds a.off v) t fz) else vw w k := by
  funext k
  unfold vw at *
  by_cases e : k = a.block
  · subst e
    obtain ⟨hlt, he⟩ := Array.getElem?_eq_some_iff.1 hb
    simp [World.setCell, hlt, Array.getElem_modify_self, he, hs]
  · simp [World.setCell, e, Array.getElem?_modify, Ne.symm e]
theorem vw_set (w : World) (r : Nat) (o : Obj) (h : r < w.heap.size) : vw { w with heap := w.heap.setIfInBounds r o } = fun k => if k = r then some o else vw w k := by
  funext k
  unfold vw
  by_cases e : k = r
  · subst e; simp [h]
  · simp [e, Array.getElem?_setIfInBounds, Ne.symm e]
theorem vw_drawn (w : World) (n : Nat) : vw { w with drawn := n } = vw w := rfl

/-- Turn one block of a part. -/
def put (h : Hp) (b : Nat) (o : Obj) : Hp := fun k => if k = b then some o else h k
theorem put_self (h : Hp) (b : Nat) (o : Obj) : put h b o b = some o := by simp [put]
theorem put_ne (h : Hp) {b k : Nat} (o : Obj) (e : k ≠ b) : put h b o k = h k := by simp [put, e]
theorem Sub.put {h h' : Hp} (s : Sub h h') {b : Nat} (o : Obj) (e : h b = none) : Sub h (put h' b o) := fun k o' p => by
  by_cases c : k = b
  · subst c; rw [e] at p; cases p
  · rw [put_ne _ _ c]; exact s k o' p
theorem Sub.put_both {h h' : Hp} (s : Sub h h') (b : Nat) (o : Obj) : Sub (SX.put h b o) (SX.put h' b o) := fun k o' p => by
  by_cases c : k = b
  · subst c; rw [put_self] at *; exact p
  · rw [put_ne _ _ c] at *; exact s k o' p
end Go.SX

namespace Go.SX

section
variable {P : Program} {ops : Array Oper}

/-- A round of a range over a function, run to its end. -/
def Rnd (P : Program) (l : Nat) (f : FuncId) (tmps : Array Value) (assign body : Code) (w : World) (N : Value → World → Prop) : Prop :=
  ∀ (c : Frame) (cs : List Frame), ∃ v w', N v w' ∧ Steps P (lone (Frame.round l f tmps assign body .normal) (c :: cs) w) (lone (c.finish v) cs w')
theorem Rnd.mono {l : Nat} {f : FuncId} {tmps : Array Value} {assign body : Code} {w : World} {N N' : Value → World → Prop} (h : ∀ v w, N v w → N' v w) (x : Rnd P l f tmps assign body w N) : Rnd P l f tmps assign body w N' :=
  fun c cs => let ⟨v, w', n, s⟩ := x c cs; ⟨v, w', h _ _ n, s⟩
/-- One operation, carried out: it yields a value, or nothing, or it is a call that returns. -/
def OW (P : Program) (o : Oper) (a : Act) (w : World) (N : Value → World → Prop) : Prop :=
  match (execOp a.eval o).run P w with
  | .ok (.value v) w' => N v w'
  | .ok .skip w' => N undef w'
  | .ok (.enter f args) w' => Calls P f args w' fun e w'' => ∃ v, e = .returned v ∧ N v w''
  | .ok (.round l f tmps assign body) w' => Rnd P l f tmps assign body w' N
  | _ => False
theorem OW.mono {o : Oper} {a : Act} {w : World} {N N' : Value → World → Prop} (h : ∀ v w, N v w → N' v w) (x : OW P o a w N) : OW P o a w N' := by
  unfold OW at *
  split at x
  · exact h _ _ x
  · exact h _ _ x
  · exact x.mono fun e w ⟨v, e1, n⟩ => ⟨v, e1, h _ _ n⟩
  · exact x.mono h
  · exact x.elim
def plainOp : Op → Bool
  | .defer _ | .select .. => false
  | _ => true
theorem plainOp_defer {op : Op} (h : plainOp op = true) (c : Call) : op ≠ .defer c := by intro e; rw [e] at h; cases h
theorem plainOp_select {op : Op} (h : plainOp op = true) (c : Array SelectCase) (b : Bool) : op ≠ .select c b := by intro e; rw [e] at h; cases h
/-- Number i comes up: it is carried out, or passed over. -/
def opW (P : Program) (ops : Array Oper) (i : Nat) (a : Act) (w : World) (N : Act → World → Prop) : Prop :=
  ∃ o, ops[i]? = some o ∧ plainOp o.op = true ∧
    if Region.wanted o (yielded ops a.tmps) then OW P o a w fun v w' => N (a.put o.dst v) w' else N (a.put o.dst undef) w
theorem opW.mono {i : Nat} {a : Act} {w : World} {N N' : Act → World → Prop} (h : ∀ a w, N a w → N' a w) (x : opW P ops i a w N) : opW P ops i a w N' := by
  obtain ⟨o, h1, h2, h3⟩ := x
  refine ⟨o, h1, h2, ?_⟩
  split
  · rename_i hw; rw [if_pos hw] at h3; exact h3.mono fun v w n => h _ _ n
  · rename_i hw; rw [if_neg hw] at h3; exact h _ _ h3
/-- Number i yields v and leaves the world alone. -/
def Yld (P : Program) (ops : Array Oper) (i : Nat) (v : Value) (a : Act) (w : World) : Prop :=
  ∃ o, ops[i]? = some o ∧ plainOp o.op = true ∧ ((Region.wanted o (yielded ops a.tmps) = true ∧ (execOp a.eval o).run P w = .ok (.value v) w) ∨ (Region.wanted o (yielded ops a.tmps) = false ∧ v = undef))
def putI (ops : Array Oper) (i : Nat) (v : Value) (a : Act) : Act := a.put ((ops[i]?).bind (·.dst)) v
theorem Yld.opW {i : Nat} {v : Value} {a : Act} {w : World} (y : Yld P ops i v a w) {N : Act → World → Prop} (h : N (putI ops i v a) w) : opW P ops i a w N := by
  obtain ⟨o, h1, h2, h3⟩ := y
  refine ⟨o, h1, h2, ?_⟩
  rw [putI, h1] at h
  rcases h3 with ⟨hw, hr⟩ | ⟨hw, rfl⟩
  · rw [if_pos hw]; unfold OW; rw [hr]; exact h
  · rw [if_neg (by simp [hw])]; exact h

/-- Operations i and k don't touch one another's temporaries. -/
def apartI (ops : Array Oper) (i k : Nat) : Bool :=
  match ops[i]?, ops[k]? with
  | some x, some y => x.apart ops y
  | _, _ => false
theorem yld_put {i k : Nat} (h : apartI ops i k = true) {v u : Value} {a : Act} {w : World} : Yld P ops i v (putI ops k u a) w ↔ Yld P ops i v a w := by
  unfold apartI at h
  split at h <;> try (cases h; done)
  rename_i x y hx hy
  obtain ⟨h1, h2, h3⟩ := Oper.apart_spec h
  have key : plainOp x.op = true → (execOp (putI ops k u a).eval x = execOp a.eval x ∧ Region.wanted x (yielded ops (putI ops k u a).tmps) = Region.wanted x (yielded ops a.tmps)) := by
    intro hp
    rw [putI, hy]
    exact ⟨execOp_put x (plainOp_select hp) a y.dst u h3, wanted_put x a y.dst u h3⟩
  constructor
  · rintro ⟨o, e, hp, hh⟩
    rw [hx] at e; cases e
    obtain ⟨k1, k2⟩ := key hp
    rw [k1, k2] at hh
    exact ⟨x, hx, hp, hh⟩
  · rintro ⟨o, e, hp, hh⟩
    rw [hx] at e; cases e
    obtain ⟨k1, k2⟩ := key hp
    rw [← k1, ← k2] at hh
    exact ⟨x, hx, hp, hh⟩
theorem putI_comm {i k : Nat} (h : apartI ops i k = true) (v u : Value) (a : Act) : putI ops i v (putI ops k u a) = putI ops k u (putI ops i v a) := by
  unfold apartI at h
  split at h <;> try (cases h; done)
  rename_i x y hx hy
  obtain ⟨h1, h2, h3⟩ := Oper.apart_spec h
  unfold putI
  rw [hx, hy]
  exact (Act.put_comm a v u h2).symm
/-- What comes up at the state with i's value laid comes up at the state without. -/
theorem opW_put {i k : Nat} (h : apartI ops i k = true) {v : Value} {a : Act} {w : World} {N : Act → World → Prop} (x : opW P ops k (putI ops i v a) w N) :
    opW P ops k a w fun a' w' => N (putI ops i v a') w' ∧ ∀ w0, Yld P ops i v a w0 ↔ Yld P ops i v a' w0 := by
  have hap := h
  unfold apartI at h
  split at h <;> try (cases h; done)
  rename_i x0 y hx hy
  obtain ⟨h1, h2, h3⟩ := Oper.apart_spec h
  obtain ⟨o, e, hp, hh⟩ := x
  rw [hy] at e; cases e
  have e1 : execOp (putI ops i v a).eval y = execOp a.eval y := by rw [putI, hx]; exact execOp_put y (plainOp_select hp) a x0.dst v h1
  have e2 : Region.wanted y (yielded ops (putI ops i v a).tmps) = Region.wanted y (yielded ops a.tmps) := by rw [putI, hx]; exact wanted_put y a x0.dst v h1
  have e3 : ∀ u, (putI ops i v a).put y.dst u = putI ops i v (a.put y.dst u) := fun u => by
    rw [putI, hx]; unfold putI; rw [hx]; exact Act.put_comm a v u h2
  have e4 : ∀ u w0, Yld P ops i v a w0 ↔ Yld P ops i v (a.put y.dst u) w0 := fun u w0 => by
    have := yld_put (P := P) hap (v := v) (u := u) (a := a) (w := w0)
    rw [putI, hy] at this
    exact this.symm
  refine ⟨y, hy, hp, ?_⟩
  rw [e2] at hh
  split
  · rename_i hw
    rw [if_pos hw] at hh
    unfold OW at *
    rw [e1] at hh
    split at hh
    · rename_i v' w' hr; exact ⟨by rw [← e3]; exact hh, e4 _⟩
    · rename_i w' hr; exact ⟨by rw [← e3]; exact hh, e4 _⟩
    · rename_i f args w' hr; exact hh.mono fun e w'' ⟨v', he, n⟩ => ⟨v', he, by rw [← e3]; exact n, e4 _⟩
    · exact Rnd.mono (fun v' w'' n => ⟨by rw [← e3]; exact n, e4 _⟩) hh
    · exact hh.elim
  · rename_i hw
    rw [if_neg hw] at hh
    exact ⟨by rw [← e3]; exact hh, e4 _⟩

/-- What was read early, with what it must yield. -/
abbrev Held := List (Nat × (World → Prop))
variable (P ops)
/-- One operation of the plan: a light one is noted; behind one that acts all that was noted, and may come later, yields the same. -/
def stp (lt : Nat → Bool) (fr : Nat → Nat → Bool) (H : Held) (i : Nat) (N : Held → Act → World → Prop) (a : Act) (w : World) : Prop :=
  match lt i with
  | true => ∃ v, Yld P ops i v a w ∧ N ((i, Yld P ops i v a) :: H) (putI ops i v a) w
  | false => opW P ops i a w fun a' w' => (∀ x ∈ H, fr x.1 i = true → x.2 w') ∧ N H a' w'
def wpH (lt : Nat → Bool) (fr : Nat → Nat → Bool) (Q : Act → World → Prop) : Held → List Nat → Act → World → Prop
  | _, [], a, w => Q a w
  | H, i :: R, a, w => stp P ops lt fr H i (fun H' => wpH lt fr Q H' R) a w
def wpL (Q : Act → World → Prop) : List Nat → Act → World → Prop
  | [], a, w => Q a w
  | i :: R, a, w => opW P ops i a w (wpL Q R)
variable {P ops}
variable {lt : Nat → Bool} {fr : Nat → Nat → Bool} {Q : Act → World → Prop}
theorem stp_mono {H : Held} {i : Nat} {N N' : Held → Act → World → Prop} {a : Act} {w : World} (h : ∀ H a w, N H a w → N' H a w) (x : stp P ops lt fr H i N a w) : stp P ops lt fr H i N' a w := by
  unfold stp at *
  split at x
  · obtain ⟨v, y, n⟩ := x; exact ⟨v, y, h _ _ _ n⟩
  · exact x.mono fun a w ⟨c, n⟩ => ⟨c, h _ _ _ n⟩
/-- Less may be noted. -/
theorem wpH_less : ∀ {R : List Nat} {H H' : Held} {a : Act} {w : World}, (∀ x ∈ H, x ∈ H') → wpH P ops lt fr Q H' R a w → wpH P ops lt fr Q H R a w
  | [], _, _, _, _, _, h => h
  | i :: R, H, H', a, w, hs, h => by
    simp only [wpH, stp] at *
    split
    · rename_i e; rw [e] at h
      obtain ⟨v, y, n⟩ := h
      refine ⟨v, y, wpH_less ?_ n⟩
      intro x hx
      rcases List.mem_cons.1 hx with rfl | hx
      · exact List.mem_cons_self
      · exact List.mem_cons_of_mem _ (hs x hx)
    · rename_i e; rw [e] at h
      exact opW.mono (fun a w ⟨c, n⟩ => ⟨fun x hx => c x (hs x hx), wpH_less hs n⟩) h
/-- **An operation is pulled to the head of a plan**, past light ones that don't touch it. -/
theorem wpH_pull {i : Nat} {B : List Nat} : ∀ {A : List Nat} {H : Held} {a : Act} {w : World}, (∀ k ∈ A, lt k = true ∧ apartI ops k i = true ∧ (lt i = true ∨ fr k i = true)) →
    wpH P ops lt fr Q H (A ++ i :: B) a w → stp P ops lt fr H i (fun H' => wpH P ops lt fr Q H' (A ++ B)) a w
  | [], _, _, _, _, h => h
  | k :: A, H, a, w, hA, h => by
    obtain ⟨hk1, hk2, hk3⟩ := hA k List.mem_cons_self
    simp only [List.cons_append, wpH, stp, hk1] at h
    obtain ⟨u, y, h⟩ := h
    have ih := wpH_pull (fun x hx => hA x (List.mem_cons_of_mem _ hx)) h
    have hk2' : apartI ops i k = true → True := fun _ => trivial
    -- apart is the same both ways
    have hap : ∀ {v : Value} {a : Act} {w : World}, Yld P ops i v (putI ops k u a) w ↔ Yld P ops i v a w := by
      intro v a w
      unfold apartI at hk2
      split at hk2 <;> try (cases hk2; done)
      rename_i x z hx hz
      obtain ⟨h1, h2, h3⟩ := Oper.apart_spec hk2
      constructor
      · rintro ⟨o, e, hp, hh⟩
        rw [hz] at e; cases e
        rw [putI, hx] at hh
        simp only [Option.bind_some] at hh
        rw [execOp_put z (plainOp_select hp) a x.dst u h1, wanted_put z a x.dst u h1] at hh
        exact ⟨z, hz, hp, hh⟩
      · rintro ⟨o, e, hp, hh⟩
        rw [hz] at e; cases e
        refine ⟨z, hz, hp, ?_⟩
        rw [putI, hx]
        simp only [Option.bind_some]
        rw [execOp_put z (plainOp_select hp) a x.dst u h1, wanted_put z a x.dst u h1]
        exact hh
    unfold stp at ih ⊢
    cases hi : lt i with
    | true =>
      rw [hi] at ih
      obtain ⟨v, yi, n⟩ := ih
      have yi' := hap.1 yi
      refine ⟨v, yi', ?_⟩
      simp only [List.cons_append, wpH, stp, hk1]
      refine ⟨u, (yld_put hk2).2 y, ?_⟩
      have ec : putI ops k u (putI ops i v a) = putI ops i v (putI ops k u a) := putI_comm hk2 u v a
      rw [ec]
      refine wpH_less ?_ n
      intro x hx
      have f1 : Yld P ops i v (putI ops k u a) = Yld P ops i v a := funext fun w => propext hap
      have f2 : Yld P ops k u (putI ops i v a) = Yld P ops k u a := funext fun w => propext (yld_put hk2)
      rw [f1]
      rw [f2] at hx
      simp only [List.mem_cons] at hx ⊢
      rcases hx with h | h | h
      · exact .inr (.inl h)
      · exact .inl h
      · exact .inr (.inr h)
    | false =>
      rw [hi] at ih hk3
      have hfr : fr k i = true := by simpa using hk3
      refine opW.mono ?_ (opW_put hk2 ih)
      rintro a' w' ⟨⟨c, n⟩, hy⟩
      refine ⟨fun x hx hf => c x (List.mem_cons_of_mem _ hx) hf, ?_⟩
      simp only [List.cons_append, wpH, stp, hk1]
      have yc : Yld P ops k u a w' := c (k, Yld P ops k u a) List.mem_cons_self hfr
      refine ⟨u, (hy w').1 yc, ?_⟩
      have f2 : Yld P ops k u a' = Yld P ops k u a := funext fun w => propext (hy w).symm
      rw [f2]
      exact n

/-! ### Which orders the tape may pick -/
def deps (o : Oper) : List Nat := o.after.toList.filterMap fun e => if Region.binds .any e then some e.on else none
def depsI (ops : Array Oper) (i : Nat) : List Nat := match ops[i]? with
  | some o => deps o
  | none => []
/-- An order of what is left, all that has come being D. -/
inductive Valid (ops : Array Oper) : List Nat → List Nat → Prop where
  | nil {D : List Nat} (h : ∀ i, i < ops.size → i ∈ D) : Valid ops D []
  | cons {D L : List Nat} {i : Nat} (h1 : i < ops.size) (h2 : i ∉ D) (h3 : ∀ e ∈ depsI ops i, e ∈ D) (h : Valid ops (i :: D) L) : Valid ops D (i :: L)
/-- The masks say of each operation all that must come before it. -/
def bit (m : List Nat) (k i : Nat) : Bool := (m.getD k 0).testBit i
def masksOk (ops : Array Oper) (m : List Nat) : Bool :=
  (List.range ops.size).all fun k => (List.range ops.size).all fun i => !bit m k i || (depsI ops k).any fun e => Nat.beq e i || bit m e i
theorem masks_done {m : List Nat} (hm : masksOk ops m = true) {D : List Nat} (hD : ∀ k ∈ D, k < ops.size ∧ ∀ i, i < ops.size → bit m k i = true → i ∈ D) {k : Nat} (hk : k < ops.size) (hr : ∀ e ∈ depsI ops k, e ∈ D) :
    ∀ i, i < ops.size → bit m k i = true → i ∈ D := by
  intro i hi hb
  have h1 := List.all_eq_true.1 (List.all_eq_true.1 hm k (List.mem_range.2 hk)) i (List.mem_range.2 hi)
  rw [hb] at h1
  simp only [Bool.not_true, Bool.false_or, List.any_eq_true, Bool.or_eq_true] at h1
  obtain ⟨e, he, h | h⟩ := h1
  · rw [← Nat.eq_of_beq_eq_true h]; exact hr e he
  · exact (hD e (hr e he)).2 i hi h
/-- A plan is good: whatever stands in front of another one must come before it, or is light and may wait. -/
def pairOk (ops : Array Oper) (m : List Nat) (lt : Nat → Bool) (fr : Nat → Nat → Bool) (k i : Nat) : Bool :=
  bit m i k || (lt k && apartI ops k i && (lt i || fr k i))
def pairsOk (ops : Array Oper) (m : List Nat) (lt : Nat → Bool) (fr : Nat → Nat → Bool) : List Nat → Bool
  | [] => true
  | k :: R => R.all (pairOk ops m lt fr k) && pairsOk ops m lt fr R
theorem pairsOk_mid {m : List Nat} {i : Nat} {B : List Nat} : ∀ {A : List Nat}, pairsOk ops m lt fr (A ++ i :: B) = true → (∀ k ∈ A, pairOk ops m lt fr k i = true) ∧ pairsOk ops m lt fr (A ++ B) = true
  | [], h => by
    simp only [List.nil_append, pairsOk, Bool.and_eq_true] at h
    exact ⟨fun k hk => (by cases hk), h.2⟩
  | k :: A, h => by
    simp only [List.cons_append, pairsOk, Bool.and_eq_true] at h
    obtain ⟨h1, h2⟩ := h
    obtain ⟨g1, g2⟩ := pairsOk_mid h2
    have h1' := List.all_eq_true.1 h1
    refine ⟨fun x hx => ?_, ?_⟩
    · rcases List.mem_cons.1 hx with rfl | hx
      · exact h1' i (by simp)
      · exact g1 x hx
    · simp only [List.cons_append, pairsOk, Bool.and_eq_true]
      refine ⟨List.all_eq_true.2 fun x hx => h1' x ?_, g2⟩
      simp only [List.mem_append, List.mem_cons] at hx ⊢
      rcases hx with h | h
      · exact .inl h
      · exact .inr (.inr h)
theorem stp_opW {H : Held} {i : Nat} {N : Held → Act → World → Prop} {a : Act} {w : World} (x : stp P ops lt fr H i N a w) : opW P ops i a w fun a' w' => ∃ H', N H' a' w' := by
  unfold stp at x
  split at x
  · obtain ⟨v, y, n⟩ := x; exact y.opW ⟨_, n⟩
  · exact x.mono fun a w ⟨_, n⟩ => ⟨_, n⟩
/-- **THE PLAN SERVES EVERY ORDER.** -/
theorem wpL_of_plan {m : List Nat} (hm : masksOk ops m = true) : ∀ {L D S : List Nat} {H : Held} {a : Act} {w : World}, Valid ops D L → (∀ k ∈ D, k < ops.size ∧ ∀ i, i < ops.size → bit m k i = true → i ∈ D) →
    (∀ i, i < ops.size → (i ∈ S ↔ i ∉ D)) → (∀ i ∈ S, i < ops.size) → S.Nodup → pairsOk ops m lt fr S = true → wpH P ops lt fr Q H S a w → wpL P ops Q L a w
  | [], D, S, H, a, w, hv, hD, hS, hlt, hn, hp, h => by
    cases hv with
    | nil h0 =>
      have : S = [] := by
        cases S with
        | nil => rfl
        | cons x S => exact absurd (h0 x (hlt x List.mem_cons_self)) ((hS x (hlt x List.mem_cons_self)).1 List.mem_cons_self)
      subst this
      exact h
  | i :: L, D, S, H, a, w, hv, hD, hS, hlt, hn, hp, h => by
    cases hv with
    | cons h1 h2 h3 hv =>
      have hiS : i ∈ S := (hS i h1).2 h2
      obtain ⟨A, B, rfl⟩ := List.append_of_mem hiS
      obtain ⟨g1, g2⟩ := pairsOk_mid hp
      have hdone := masks_done hm hD h1 h3
      have hA : ∀ k ∈ A, lt k = true ∧ apartI ops k i = true ∧ (lt i = true ∨ fr k i = true) := by
        intro k hk
        have := g1 k hk
        unfold pairOk at this
        simp only [Bool.or_eq_true, Bool.and_eq_true] at this
        rcases this with hb | ⟨⟨x1, x2⟩, x3⟩
        · have hkS : k ∈ A ++ i :: B := List.mem_append.2 (.inl hk)
          exact absurd (hdone k (hlt k hkS) hb) ((hS k (hlt k hkS)).1 hkS)
        · exact ⟨x1, x2, x3⟩
      have hst := stp_opW (wpH_pull hA h)
      have hnd : (A ++ B).Nodup ∧ i ∉ A ++ B := by
        have := (List.perm_middle (a := i) (l₁ := A) (l₂ := B)).nodup_iff.1 hn
        exact ⟨(List.nodup_cons.1 this).2, (List.nodup_cons.1 this).1⟩
      refine hst.mono fun a' w' ⟨H', n⟩ => wpL_of_plan hm hv ?_ ?_ ?_ hnd.1 g2 n
      · intro k hk
        rcases List.mem_cons.1 hk with rfl | hk
        · exact ⟨h1, fun j hj hb => List.mem_cons_of_mem _ (hdone j hj hb)⟩
        · exact ⟨(hD k hk).1, fun j hj hb => List.mem_cons_of_mem _ ((hD k hk).2 j hj hb)⟩
      · intro j hj
        constructor
        · intro hjm hjd
          rcases List.mem_cons.1 hjd with rfl | hjd
          · exact hnd.2 hjm
          · refine (hS j hj).1 ?_ hjd
            simp only [List.mem_append, List.mem_cons] at hjm ⊢
            rcases hjm with h | h
            · exact .inl h
            · exact .inr (.inr h)
        · intro hjd
          have : j ∈ A ++ i :: B := (hS j hj).2 fun h => hjd (List.mem_cons_of_mem _ h)
          simp only [List.mem_append, List.mem_cons] at this ⊢
          rcases this with h | rfl | h
          · exact .inl h
          · exact absurd List.mem_cons_self hjd
          · exact .inr h
      · intro j hj
        refine hlt j ?_
        simp only [List.mem_append, List.mem_cons] at hj ⊢
        rcases hj with h | h
        · exact .inl h
        · exact .inr (.inr h)
/-- Each operation waits for earlier ones alone. -/
def backOk (ops : Array Oper) : Bool := (List.range ops.size).all fun i => (depsI ops i).all fun e => Nat.blt e i
theorem go_valid (hb : backOk ops = true) : ∀ (fuel t : Nat) (listed : Array Bool) (D : List Nat), (∀ i, i < ops.size → (listed.getD i true = true ↔ i ∈ D)) → listed.size = ops.size →
    ((List.range ops.size).filter fun i => !listed.getD i true).length ≤ fuel → Valid ops D (Region.linearise.go .any ops fuel t listed [])
  | 0, t, listed, D, hl, hs, hf => by
    simp only [Region.linearise.go, List.reverse_nil]
    refine .nil fun i hi => (hl i hi).1 ?_
    have : ((List.range ops.size).filter fun i => !listed.getD i true) = [] := List.eq_nil_of_length_eq_zero (by omega)
    have := (List.filter_eq_nil_iff.1 this) i (List.mem_range.2 hi)
    simpa using this
  | fuel + 1, t, listed, D, hl, hs, hf => by
    simp only [Region.linearise.go]
    generalize hrs : (List.range ops.size).filter (fun i => !listed.getD i true && ((ops[i]?).map (·.after.all fun e => !Region.binds .any e || listed.getD e.on false)).getD false) = rs
    have hmem : ∀ i, i ∈ rs ↔ (i < ops.size ∧ i ∉ D ∧ ∀ e ∈ depsI ops i, e ∈ D) := by
      intro i
      rw [← hrs]
      simp only [List.mem_filter, List.mem_range, Bool.and_eq_true]
      constructor
      · rintro ⟨hi, h1, h2⟩
        have ho : ops[i]? = some ops[i] := by simp [hi]
        refine ⟨hi, fun hd => ?_, fun e he => ?_⟩
        · have := (hl i hi).2 hd; rw [this] at h1; simp at h1
        · rw [ho] at h2
          simp only [Option.map_some, Option.getD_some] at h2
          simp only [depsI, ho, deps, List.mem_filterMap] at he
          obtain ⟨x, hx, hxe⟩ := he
          split at hxe
          · rename_i hbind
            cases hxe
            have h3 := Array.all_eq_true'.1 h2 x (by simpa using hx)
            simp only [hbind, Bool.not_true, Bool.false_or] at h3
            have hlt : x.on < ops.size := by
              by_cases hc : x.on < listed.size
              · omega
              · simp [Array.getD, hc] at h3
            refine (hl _ hlt).1 ?_
            simp [Array.getD, hs, hlt] at h3 ⊢; exact h3
          · cases hxe
      · rintro ⟨hi, h1, h2⟩
        have ho : ops[i]? = some ops[i] := by simp [hi]
        refine ⟨hi, ?_, ?_⟩
        · cases hc : listed.getD i true with
          | false => rfl
          | true => exact absurd ((hl i hi).1 hc) h1
        · rw [ho]
          simp only [Option.map_some, Option.getD_some]
          refine Array.all_eq_true'.2 fun x hx => ?_
          by_cases hbind : Region.binds .any x = true
          · have he : x.on ∈ depsI ops i := by
              simp only [depsI, ho, deps, List.mem_filterMap]
              exact ⟨x, by simpa using hx, by simp [hbind]⟩
            have hd := h2 _ he
            have hlt : x.on < ops.size := by
              have h4 := List.all_eq_true.1 (List.all_eq_true.1 hb i (List.mem_range.2 hi)) _ he
              have : x.on < i := Nat.le_of_ble_eq_true h4
              omega
            have := (hl _ hlt).2 hd
            simp [Array.getD, hs, hlt] at this ⊢; simp [this]
          · simp [hbind]
    cases hg : rs[t % rs.length]? with
    | none =>
      simp only [List.reverse_nil]
      have hnil : rs = [] := by
        cases rs with
        | nil => rfl
        | cons x rs => exact absurd (Nat.mod_lt t (by simp : 0 < (x :: rs).length)) (by simpa using hg)
      refine .nil ?_
      -- the least one that has not come could come
      intro i
      induction i using Nat.strongRecOn with
      | _ i ih =>
        intro hi
        by_cases hd : i ∈ D
        · exact hd
        · have : i ∈ rs := (hmem i).2 ⟨hi, hd, fun e he => by
            have h4 := List.all_eq_true.1 (List.all_eq_true.1 hb i (List.mem_range.2 hi)) _ he
            have : e < i := Nat.le_of_ble_eq_true h4
            exact ih e this (by omega)⟩
          rw [hnil] at this; cases this
    | some i =>
      have hi := (hmem i).1 (List.mem_of_getElem? hg)
      show Valid ops D (Region.linearise.go .any ops fuel (t / rs.length) (listed.setIfInBounds i true) [i])
      rw [linearise_go_acc]
      simp only [List.reverse_cons, List.reverse_nil, List.nil_append, List.singleton_append]
      refine .cons hi.1 hi.2.1 hi.2.2 (go_valid hb fuel _ _ _ ?_ (by simp [hs]) ?_)
      · intro j hj
        by_cases hc : i = j
        · subst hc; simp [Array.getD, hs, hj]
        · have e1 : (listed.setIfInBounds i true).getD j true = listed.getD j true := getD_set_ne true hc
          rw [e1, hl j hj]
          simp [Ne.symm hc]
      · have hlt : ((List.range ops.size).filter fun j => !(listed.setIfInBounds i true).getD j true).length < ((List.range ops.size).filter fun j => !listed.getD j true).length := by
          have hsub : ((List.range ops.size).filter fun j => !(listed.setIfInBounds i true).getD j true) = ((List.range ops.size).filter fun j => !listed.getD j true).filter fun j => !Nat.beq j i := by
            rw [List.filter_filter]
            refine List.filter_congr fun j hj => ?_
            have hj' := List.mem_range.1 hj
            by_cases hc : i = j
            · subst hc
              have : Nat.beq i i = true := by simp
              rw [this]
              simp [Array.getD, hs, hj']
            · have e1 : (listed.setIfInBounds i true).getD j true = listed.getD j true := getD_set_ne true hc
              have : Nat.beq j i = false := by cases hb' : Nat.beq j i with
                | false => rfl
                | true => exact absurd (Nat.eq_of_beq_eq_true hb').symm hc
              rw [e1, this]; simp
          rw [hsub]
          have him : i ∈ (List.range ops.size).filter fun j => !listed.getD j true := by
            refine List.mem_filter.2 ⟨List.mem_range.2 hi.1, ?_⟩
            cases hc : listed.getD i true with
            | false => rfl
            | true => exact absurd ((hl i hi.1).1 hc) hi.2.1
          exact List.length_filter_lt_length_iff_exists.2 ⟨i, him, by simp⟩
        omega
theorem linearise_valid (hb : backOk ops = true) (t : Nat) : Valid ops [] (Region.linearise .any ops t) := by
  unfold Region.linearise
  refine go_valid hb _ _ _ _ ?_ (by simp) ?_
  · intro i hi; simp [Array.getD, hi]
  · exact Nat.le_trans (List.length_filter_le _ _) (by simp)

/-! ### ... on the machine -/
theorem opW_steps {i : Nat} {a : Act} {w : World} {N : Act → World → Prop} (x : opW P ops i a w N) (b : Frame) (rest : List Nat) (k : List Item) (cs : List Frame) :
    ∃ a' w', Steps P (lone (b.atR a (.inRegion ops (i :: rest) :: k)) cs w) (lone (b.atR a' (.inRegion ops rest :: k)) cs w') ∧ N a' w' := by
  obtain ⟨o, ho, hp, h⟩ := x
  have hfin : ∀ v, (b.atR a (.inRegion ops (i :: rest) :: k)).finish v = b.atR (a.put o.dst v) (.inRegion ops rest :: k) := by
    intro v; rw [Frame.finish_atR, ho]; rfl
  by_cases hw : Region.wanted o (yielded ops a.tmps) = true
  · rw [if_pos hw] at h
    have hs := stepGR_op (P := P) (b := b) (a := a) (k := k) (cs := cs) (w := w) (rest := rest) ho hw
    rw [Oper.semAt_eq _ _ _ (plainOp_defer hp)] at hs
    unfold OW at h
    split at h
    · rename_i v w' hr
      exact ⟨_, w', .one (step_lone_go (by rw [hs, ← hfin]; simp [stepG.apply, hr])), h⟩
    · rename_i w' hr
      exact ⟨_, w', .one (step_lone_go (by rw [hs, ← hfin]; simp [stepG.apply, hr])), h⟩
    · rename_i f args w' hr
      obtain ⟨e, w'', fr, ⟨v, rfl, hN⟩, hsteps, _, hleave⟩ := h (b.atR a (.inRegion ops (i :: rest) :: k) :: cs)
      have henter : step P (lone (b.atR a (.inRegion ops (i :: rest) :: k)) cs w) = .next (lone (Frame.enter P f args .normal) (b.atR a (.inRegion ops (i :: rest) :: k) :: cs) w') :=
        step_lone_go (by rw [hs]; simp [stepG.apply, hr, Frame.atR])
      have hback : step P (lone fr (b.atR a (.inRegion ops (i :: rest) :: k) :: cs) w'') = .next (lone (b.atR (a.put o.dst v) (.inRegion ops rest :: k)) cs w'') := by
        rw [← hfin]; exact step_leave_returned hleave
      exact ⟨_, w'', .head henter (Steps.trans hsteps (.one hback)), hN⟩
    · rename_i l f tmps assign body w' hr
      obtain ⟨v, w'', hN, hsteps⟩ := h (b.atR a (.inRegion ops (i :: rest) :: k)) cs
      have henter : step P (lone (b.atR a (.inRegion ops (i :: rest) :: k)) cs w) = .next (lone (Frame.round l f tmps assign body .normal) (b.atR a (.inRegion ops (i :: rest) :: k) :: cs) w') :=
        step_lone_go (by rw [hs]; simp [stepG.apply, hr, Frame.atR])
      rw [hfin] at hsteps
      exact ⟨_, w'', .head henter hsteps, hN⟩
    · exact h.elim
  · rw [if_neg hw] at h
    refine ⟨_, w, .one (stepR_op_skip (by simp only [ho, Option.map_some, Option.getD_some]; simpa using hw)), ?_⟩
    rw [ho]; exact h
theorem wpL_steps {Q : Act → World → Prop} : ∀ {L : List Nat} {a : Act} {w : World}, wpL P ops Q L a w → ∀ (b : Frame) (k : List Item) (cs : List Frame),
    ∃ a' w', Steps P (lone (b.atR a (.inRegion ops L :: k)) cs w) (lone (b.atR a' k) cs w') ∧ Q a' w'
  | [], a, w, h, b, k, cs => ⟨a, w, .one stepR_region_end, h⟩
  | i :: L, a, w, h, b, k, cs => by
    obtain ⟨a1, w1, s1, h1⟩ := opW_steps h b L k cs
    obtain ⟨a2, w2, s2, h2⟩ := wpL_steps h1 b k cs
    exact ⟨a2, w2, Steps.trans s1 s2, h2⟩
/-- In the order of the text, all operations acting. -/
theorem wpL_of_text : ∀ {R : List Nat} {H : Held} {a : Act} {w : World}, wpH P ops (fun _ => false) (fun _ _ => false) Q H R a w → wpL P ops Q R a w
  | [], _, _, _, h => h
  | i :: R, H, a, w, h => by
    simp only [wpH, stp] at h
    exact opW.mono (fun a w ⟨_, n⟩ => wpL_of_text n) h
end
end Go.SX

namespace Go.SX

/-! ### Values -/
/-- A hash: 32 bytes. -/
structure Dig where
  bs : List UInt8
  h : bs.length = 32
def Dig.vals (D : Dig) : List Value := D.bs.map fun x => .int .u8 x.toNat
theorem Dig.vals_length (D : Dig) : D.vals.length = 32 := by simp [Dig.vals, D.h]
def Dig.zero : Dig := ⟨List.replicate 32 0, rfl⟩
/-- A stretch of cells: one, or those of a hash. -/
inductive Ch where
  | c (v : Value)
  | d (D : Dig)
def Ch.vals : Ch → List Value
  | .c v => [v]
  | .d D => D.vals
def Ch.w : Ch → Nat
  | .c _ => 1
  | .d _ => 32
theorem Ch.vals_length (x : Ch) : x.vals.length = x.w := by cases x <;> simp [Ch.vals, Ch.w, Dig.vals_length]
def flat : List Ch → List Value
  | [] => []
  | x :: r => x.vals ++ flat r
def flatW : List Ch → Nat
  | [] => 0
  | x :: r => x.w + flatW r
theorem flat_length (l : List Ch) : (flat l).length = flatW l := by
  induction l with
  | nil => rfl
  | cons x r ih => simp [flat, flatW, ih, Ch.vals_length]
theorem flat_append (l r : List Ch) : flat (l ++ r) = flat l ++ flat r := by
  induction l with
  | nil => rfl
  | cons x l ih => simp [flat, ih]
/-- A struct or an array by value. -/
def agv (l : List Ch) : Value := .agg (flat l).toArray
/-- A value of one cell, or an aggregate by its stretches. -/
inductive SV1 where
  | o (v : Value)
  | g (q : List Ch)
@[reducible] def SV1.val : SV1 → Value
  | .o v => v
  | .g q => agv q
def SV1.ch : SV1 → List Ch
  | .o v => [.c v]
  | .g q => q
/-- ... or a tuple of such. -/
inductive SV where
  | s (x : SV1)
  | t (l : List SV1)
@[reducible] def SV.val : SV → Value
  | .s x => x.val
  | .t l => .tuple (l.map SV1.val).toArray
/-- A slice's three words. -/
structure Sl where
  p : Option Addr
  n : Nat
  c : Nat
@[reducible] def Sl.v (s : Sl) : Value := .slice s.p s.n s.c

/-! ### Entries of memory -/
inductive Ent : Type 1 where
  /-- A block that is cells, all known. -/
  | blk (b : Nat) (T : TypeId) (cs : List Ch)
  /-- What a slice reads as, nil or not; its array is its own. -/
  | vec {α : Type} (s : Sl) (T : TypeId) (wd : Nat) (enc : α → List Ch) (l : List α)
  /-- A map by its entries, in the order in which they came. -/
  | map {κ ν : Type} (b : Nat) (ek : κ → SV1) (ev : ν → SV1) (m : List (κ × ν))
  /-- Where an element of a slice lies (no memory is meant). -/
  | el (b off : Nat) (s : Sl) (i wd : Nat)
  /-- Whatever a predicate says of a part of memory. -/
  | abs (b : Nat) (R : Nat → Hp → Prop)

/-- The slice's cells, in a heap. -/
def VecAt {α : Type} (s : Sl) (T : TypeId) (wd : Nat) (enc : α → List Ch) (l : List α) (h : Hp) : Prop :=
  (s.p = none ∧ s.n = 0 ∧ s.c = 0 ∧ l = []) ∨
  ∃ b o cs, s.p = some ⟨b, o, none⟩ ∧ s.n = l.length ∧ s.n ≤ s.c ∧ h b = some (.cells cs T (0, 0)) ∧ o + s.c * wd ≤ cs.size ∧
    (∀ x, x ∈ l → flatW (enc x) = wd) ∧ ∀ (i : Nat) (x : α), l[i]? = some x → ∀ (j : Nat) (v : Value), (flat (enc x))[j]? = some v → cs[o + i * wd + j]? = some v
/-- The map's entries, in a heap. -/
def MapAt {κ ν : Type} (b : Nat) (ek : κ → SV1) (ev : ν → SV1) (m : List (κ × ν)) (h : Hp) : Prop :=
  ∃ es clock, h b = some (.map es clock) ∧ es.toList.map (fun e => (e.key, e.val)) = m.map (fun x => ((ek x.1).val, (ev x.2).val)) ∧
    (es.toList.map (·.born)).Nodup ∧ ∀ e ∈ es.toList, e.born < clock
def Ent.den (h : Hp) : Ent → Prop
  | .blk b T cs => h b = some (.cells (flat cs).toArray T (0, 0))
  | .vec s T wd enc l => VecAt s T wd enc l h
  | .map b ek ev m => MapAt b ek ev m h
  | .el b off s i wd => ∃ o, s.p = some ⟨b, o, none⟩ ∧ off = o + i * wd
  | .abs b R => R b h
/-- The entries hold, each of a part of its own. -/
def OSat : List Ent → Hp → Prop
  | [], _ => True
  | e :: m, h => ∃ h1 h2, Dj h1 h2 ∧ Sub h1 h ∧ Sub h2 h ∧ e.den h1 ∧ OSat m h2
/-- ... and beside them lies K, untouched. -/
def MSat (K : Hp) (m : List Ent) (H : Hp) : Prop := ∃ h, Dj K h ∧ Sub K H ∧ Sub h H ∧ OSat m h

theorem OSat.mono {m : List Ent} {h h' : Hp} (s : Sub h h') (o : OSat m h) : OSat m h' := by
  cases m with
  | nil => trivial
  | cons e m => obtain ⟨h1, h2, d, s1, s2, r⟩ := o; exact ⟨h1, h2, d, s1.trans s, s2.trans s, r⟩
/-- 'e' may be picked out of the entries. -/
inductive Pick : List Ent → Ent → List Ent → Prop where
  | head {e : Ent} {m : List Ent} : Pick (e :: m) e m
  | tail {x e : Ent} {m r : List Ent} (h : Pick m e r) : Pick (x :: m) e (x :: r)
theorem OSat.pick {m r : List Ent} {e : Ent} (p : Pick m e r) : ∀ {h : Hp}, OSat m h → OSat (e :: r) h := by
  induction p with
  | head => exact fun h => h
  | tail p ih =>
    intro h ⟨h1, h2, d, s1, s2, hx, hm⟩
    obtain ⟨k1, k2, d', t1, t2, he, hr⟩ := ih hm
    refine ⟨k1, un h1 k2, ?_, t1.trans s2, un_sub s1 (t2.trans s2), he, h1, k2, ?_, sub_un_left _ _, sub_un_right ?_, hx, hr⟩
    · exact Dj.un_right ((d.mono (Sub.refl _) t1).symm) d'
    · exact d.mono (Sub.refl _) t2
    · exact d.mono (Sub.refl _) t2
theorem OSat.unpick {m r : List Ent} {e : Ent} (p : Pick m e r) : ∀ {h : Hp}, OSat (e :: r) h → OSat m h := by
  induction p with
  | head => exact fun h => h
  | tail p ih =>
    intro h ⟨h1, h2, d, s1, s2, he, k1, k2, d', t1, t2, hx, hr⟩
    have d1 : Dj h1 k2 := d.mono (Sub.refl _) t2
    refine ⟨k1, un h1 k2, ?_, t1.trans s2, un_sub s1 (t2.trans s2), hx, ih ⟨h1, k2, d1, sub_un_left _ _, sub_un_right d1, he, hr⟩⟩
    exact Dj.un_right ((d.mono (Sub.refl _) t1).symm) d'
/-- The entries M may be taken out. -/
inductive Take : List Ent → List Ent → List Ent → Prop where
  | nil {m : List Ent} : Take m [] m
  | cons {m m1 M r : List Ent} {e : Ent} (p : Pick m e m1) (t : Take m1 M r) : Take m (e :: M) r
theorem OSat.take {m M r : List Ent} (t : Take m M r) : ∀ {h : Hp}, OSat m h → ∃ h1 h2, Dj h1 h2 ∧ Sub h1 h ∧ Sub h2 h ∧ OSat M h1 ∧ OSat r h2 := by
  induction t with
  | nil => exact fun {h} o => ⟨emp, h, Dj.emp_left _, sub_emp _, Sub.refl _, trivial, o⟩
  | cons p _ ih =>
    intro h o
    obtain ⟨h1, h2, d, s1, s2, he, hm⟩ := OSat.pick p o
    obtain ⟨k1, k2, d', t1, t2, hM, hr⟩ := ih hm
    have d1 : Dj h1 k1 := d.mono (Sub.refl _) t1
    refine ⟨un h1 k1, k2, Dj.un_left (d.mono (Sub.refl _) t2) d', un_sub s1 (t1.trans s2), t2.trans s2, ⟨h1, k1, d1, sub_un_left _ _, sub_un_right d1, he, hM⟩, hr⟩
theorem OSat.append {m r : List Ent} : ∀ {h1 h2 h : Hp}, Dj h1 h2 → Sub h1 h → Sub h2 h → OSat m h1 → OSat r h2 → OSat (m ++ r) h := by
  induction m with
  | nil => exact fun _ _ s2 _ o => o.mono s2
  | cons e m ih =>
    intro h1 h2 h d s1 s2 ⟨k1, k2, d', t1, t2, he, hm⟩ hr
    have d2 : Dj k2 h2 := d.mono t2 (Sub.refl _)
    refine ⟨k1, un k2 h2, Dj.un_right d' (d.mono t1 (Sub.refl _)), t1.trans s1, un_sub (t2.trans s1) s2, he, ih d2 (sub_un_left _ _) (sub_un_right d2) hm hr⟩

/-! ### The program's types, by a table -/
inductive TD where
  | plain | bool | int (k : IntKind) | str | ptr (e : TypeId) | slice (e : TypeId) | array (n : Nat) (e : TypeId) | map (k e : TypeId) | struct (fs : List (Nat × TypeId)) | other
structure TInf where
  d : TD
  size : Nat
  bytes : Nat
  zero : List Ch
def TInf.agg (i : TInf) : Bool := match i.d with
  | .struct _ | .array _ _ => true
  | _ => false
/-- What the table's row says is so. -/
structure TOk (P : Program) (t : TypeId) (i : TInf) : Prop where
  isAgg : ∀ w, (isAgg t).run P w = .ok i.agg w
  size : ∀ w, (sizeOf t).run P w = .ok i.size w
  info : ∃ x, P.info? t = some x ∧ x.bytes = i.bytes ∧ x.size = i.size ∧ (i.zero ≠ [] → ∃ z, x.zero = some z ∧ z.cells = (flat i.zero).toArray ∧ (match z with | .agg _ => i.agg = true | .tuple _ => False | _ => i.agg = false))
  desc : match i.d with
    | .plain => True
    | .bool => P.underlying t = some .bool
    | .int k => P.underlying t = some (.int k)
    | .str => P.underlying t = some .string
    | .ptr e => P.underlying t = some (.pointer e)
    | .slice e => P.underlying t = some (.slice e)
    | .array n e => P.underlying t = some (.array n e)
    | .map k e => P.underlying t = some (.map k e)
    | .struct fs => ∃ ff : Array Field, P.underlying t = some (.struct ff) ∧ ff.toList.map (fun f => (f.offset, f.type)) = fs
    | .other => True
class Tab (P : Program) where
  ti : TypeId → Option TInf
  ok : ∀ t i, ti t = some i → TOk P t i

/-! ### The symbolic state -/
abbrev Env := List (Nat × SV)
def look : Env → Nat → Option SV
  | [], _ => none
  | (k, v) :: r, t => match Nat.beq k t with
    | true => some v
    | false => look r t
def ESat (env : Env) (a : Act) : Prop := ∀ t v, look env t = some v → a.tmps[t]? = some v.val
def ev (env : Env) : Operand → Option SV
  | .tmp t => look env t
  | .const v => some (.s (.o v))
  | .global g => some (.s (.o (.pointer (some ⟨g, 0, none⟩))))
  | .func f => some (.s (.o (.func (.func f) #[] #[])))
theorem ESat.eval {env : Env} {a : Act} (h : ESat env a) {x : Operand} {v : SV} (e : ev env x = some v) : a.eval x = v.val := by
  cases x with
  | tmp t => have := h t v e; simp [Act.eval, Array.getD_eq_getD_getElem?, this]
  | const u => cases e; rfl
  | global g => cases e; rfl
  | func f => cases e; rfl
def evs (env : Env) : List Operand → Option (List SV1)
  | [] => some []
  | x :: r => match ev env x with
    | some (.s v) => match evs env r with
      | some l => some (v :: l)
      | none => none
    | _ => none
theorem ESat.evals {env : Env} {a : Act} (h : ESat env a) : ∀ {xs : List Operand} {vs : List SV1}, evs env xs = some vs → xs.map a.eval = vs.map SV1.val
  | [], vs, e => by simp [evs] at e; simp [e]
  | x :: r, vs, e => by
    simp only [evs] at e
    split at e
    · rename_i v hv
      split at e
      · rename_i l hl
        cases e
        simp [h.eval hv, h.evals hl]
      · cases e
    · cases e
def setE (env : Env) : Option Tmp → SV → Env
  | some d, v => (d, v) :: env
  | none, _ => env
def dstOk (N : Nat) : Option Tmp → Bool
  | some d => Nat.blt d N
  | none => true
theorem ESat.put {env : Env} {a : Act} {N : Nat} (h : ESat env a) (hs : a.tmps.size = N) {d : Option Tmp} (hd : dstOk N d = true) (v : SV) : ESat (setE env d v) (a.put d v.val) := by
  cases d with
  | none => exact h
  | some d =>
    intro t u e
    have hlt : d < N := Nat.le_of_ble_eq_true hd
    simp only [setE, look] at e
    by_cases c : d = t
    · subst c
      have : Nat.beq d d = true := by simp
      rw [this] at e
      cases e
      simp [Act.put, hs, hlt]
    · have : Nat.beq d t = false := by cases hb : Nat.beq d t with
        | false => rfl
        | true => exact absurd (Nat.eq_of_beq_eq_true hb) c
      rw [this] at e
      simp only [Act.put]
      rw [Array.getElem?_setIfInBounds_ne (h := c)]
      exact h t u e
theorem Act.put_size (a : Act) (d : Option Tmp) (v : Value) : (a.put d v).tmps.size = a.tmps.size := by cases d <;> simp [Act.put]
theorem Act.put_def (a : Act) (d : Option Tmp) (v : Value) : (a.put d v).defers = a.defers := by cases d <;> rfl

/-- What stays the same while a function is walked. -/
structure Cx (P : Program) (N : Nat) where
  T : Machine → Prop
  back : ∀ m m', Steps P m m' → T m' → T m
  b : Frame
  cs : List Frame
  os : Os
  out : Array (Nat × ByteArray)
structure St {P : Program} {N : Nat} (cx : Cx P N) (K : Hp) (ds : List Deferred) (env : Env) (mem : List Ent) (a : Act) (w : World) : Prop where
  ds : a.defers = ds
  size : a.tmps.size = N
  env : ESat env a
  mem : MSat K mem (vw w)
  os : w.os = cx.os
  out : w.output = cx.out
/-- From each state that is so, with these things to do, the machine comes to where it should. -/
def SX {P : Program} {N : Nat} (cx : Cx P N) (K : Hp) (ds : List Deferred) (k : List Item) (env : Env) (mem : List Ent) : Prop :=
  ∀ a w, St cx K ds env mem a w → cx.T (lone (cx.b.atR a k) cx.cs w)
/-! ### Regions -/
/-- Kinds of operations that look at temporaries alone. -/
def pureKind (P : Program) [Tab P] : Op → Bool
  | .move _ | .assign _ | .pick .. | .nilCheck _ | .binOp .. | .unOp .. | .fieldAddr .. | .field .. | .indexAddr .. | .index .. | .extract .. | .slice .. | .makeFunc .. | .build .. => true
  | .convert s d _ => match Tab.ti P s, Tab.ti P d with
    | some i, some j => match i.d, j.d with
      | .int _, .int _ => true
      | _, _ => false
    | _, _ => false
  | _ => false
/-- Kinds that leave the world alone. -/
def lightKind (P : Program) [Tab P] (op : Op) : Bool :=
  pureKind P op || match op with
  | .load .. | .lookup .. => true
  | .call { callee := .builtin b, .. } => match b with
    | .len | .cap | .min | .max => true
    | _ => false
  | _ => false
/-- A region: its operations; whether its order is drawn; which reads may come behind which operations that act. -/
structure Rg where
  ops : List Oper
  dr : Bool
  flo : List (Nat × Nat)
def Rg.lt (P : Program) [Tab P] (r : Rg) (i : Nat) : Bool := match r.dr with
  | true => match r.ops.toArray[i]? with
    | some o => lightKind P o.op
    | none => false
  | false => false
def Rg.fr (P : Program) [Tab P] (r : Rg) (i k : Nat) : Bool := match r.dr with
  | true => (match r.ops.toArray[i]? with
    | some o => pureKind P o.op
    | none => false) || r.flo.any fun x => Nat.beq x.1 i && Nat.beq x.2 k
  | false => false
/-- A read that may come later, and what must hold for it to yield the same. -/
structure HE where
  idx : Nat
  chk : List Ent → Prop
section
variable {P : Program} [Tab P] {rg : Rg} {i : Nat} {C : HE → Prop} {a : HE} {H : List HE}
theorem hh_nil : ∀ x ∈ ([] : List HE), rg.fr P x.idx i = true → C x := fun _ h => by cases h
theorem hh_free (h : rg.fr P a.idx i = false) (t : ∀ x ∈ H, rg.fr P x.idx i = true → C x) : ∀ x ∈ a :: H, rg.fr P x.idx i = true → C x := fun x hx hf => by
  cases hx with
  | head => rw [h] at hf; cases hf
  | tail _ hx => exact t x hx hf
theorem hh_chk (h : C a) (t : ∀ x ∈ H, rg.fr P x.idx i = true → C x) : ∀ x ∈ a :: H, rg.fr P x.idx i = true → C x := fun x hx hf => by
  cases hx with
  | head => exact h
  | tail _ hx => exact t x hx hf
end
/-- The symbolic word for what was read early. -/
def HOk {P : Program} [Tab P] (K : Hp) (r : Rg) (H : List HE) (Hs : Held) : Prop :=
  ∀ x ∈ Hs, (∀ w, x.2 w) ∨ (∀ k, r.fr P x.1 k = false) ∨ ∃ h ∈ H, h.idx = x.1 ∧ ∀ m w, h.chk m → MSat K m (vw w) → x.2 w
/-- The same, within a region: the operations that are left, by the plan. -/
def SXo {P : Program} [Tab P] {N : Nat} (cx : Cx P N) (K : Hp) (ds : List Deferred) (r : Rg) (H : List HE) (R : List (Nat × Oper)) (k : List Item) (env : Env) (mem : List Ent) : Prop :=
  (∀ x ∈ R, r.ops.toArray[x.1]? = some x.2) → ∀ a w Hs, St cx K ds env mem a w → HOk (P := P) K r H Hs →
    wpH P r.ops.toArray (r.lt P) (r.fr P) (fun a' w' => cx.T (lone (cx.b.atR a' k) cx.cs w')) Hs (R.map (·.1)) a w

section control
variable {P : Program} {N : Nat} {cx : Cx P N} {K : Hp} {ds : List Deferred} {k : List Item} {env : Env} {mem : List Ent}
theorem Cx.step {m m' : Machine} (h : step P m = .next m') (t : cx.T m') : cx.T m := cx.back _ _ (.one h) t
theorem sx_skip (h : SX cx K ds k env mem) : SX cx K ds (.code .skip :: k) env mem := fun a w s => cx.step stepR_skip (h a w s)
theorem sx_label {l : Nat} (h : SX cx K ds k env mem) : SX cx K ds (.code (.label l) :: k) env mem := fun a w s => cx.step stepR_label (h a w s)
theorem sx_inBlock {id : Nat} (h : SX cx K ds k env mem) : SX cx K ds (.inBlock id :: k) env mem := fun a w s => cx.step stepR_inBlock (h a w s)
theorem sx_inScope {c : Code} (h : SX cx K ds k env mem) : SX cx K ds (.inScope c :: k) env mem := fun a w s =>
  cx.step (step_lone_go (by simp [stepG, stepG.exec, Frame.atR])) (h a w s)
theorem sx_seq {x y : Code} (h : SX cx K ds (.code x :: .code y :: k) env mem) : SX cx K ds (.code (.seq x y) :: k) env mem := fun a w s => cx.step stepR_seq (h a w s)
theorem sx_block {id : Nat} {c : Code} (h : SX cx K ds (.code c :: .inBlock id :: k) env mem) : SX cx K ds (.code (.block id c) :: k) env mem := fun a w s => cx.step stepR_block (h a w s)
theorem sx_scope {c : Code} (h : SX cx K ds (.code c :: .inScope c :: k) env mem) : SX cx K ds (.code (.scope c) :: k) env mem := fun a w s =>
  cx.step (step_lone_go (by simp [stepG, stepG.exec, Frame.atR])) (h a w s)
theorem sx_exit {id : Nat} {k' : List Item} (hk : exitTo id k = some k') (h : SX cx K ds k' env mem) : SX cx K ds (.code (.exit id) :: k) env mem := fun a w s => cx.step (stepR_exit hk) (h a w s)
theorem sx_cond {c : Operand} {x y : Code} {t : Bool} (hc : ev env c = some (.s (.o (.bool t)))) (h1 : t = true → SX cx K ds (.code x :: k) env mem) (h2 : t = false → SX cx K ds (.code y :: k) env mem) :
    SX cx K ds (.code (.cond c x y) :: k) env mem := fun a w s => by
  refine cx.step (stepR_cond (s.env.eval hc)) ?_
  cases t with
  | true => exact h1 rfl a w s
  | false => exact h2 rfl a w s
theorem sx_condT {c : Operand} {x y : Code} (hc : ev env c = some (.s (.o (.bool true)))) (h : SX cx K ds (.code x :: k) env mem) : SX cx K ds (.code (.cond c x y) :: k) env mem :=
  sx_cond hc (fun _ => h) (fun e => by cases e)
theorem sx_condF {c : Operand} {x y : Code} (hc : ev env c = some (.s (.o (.bool false)))) (h : SX cx K ds (.code y :: k) env mem) : SX cx K ds (.code (.cond c x y) :: k) env mem :=
  sx_cond hc (fun e => by cases e) (fun _ => h)
/-- A loop: by what holds at each round's head ('I x'), and what goes down. -/
theorem sx_loop.{u} {γ : Type u} {body : Code} (μ : γ → Nat) (E : γ → Env) (M : γ → List Ent) (x0 : γ)
    (h : ∀ x, (∀ y, μ y < μ x → SX cx K ds (.inLoop body :: k) (E y) (M y)) → SX cx K ds (.code body :: .inLoop body :: k) (E x) (M x)) :
    SX cx K ds (.code (.loop body) :: k) (E x0) (M x0) := by
  have key : ∀ n x, μ x = n → SX cx K ds (.code body :: .inLoop body :: k) (E x) (M x) := by
    intro n
    induction n using Nat.strongRecOn with
    | _ n ih =>
      intro x hx
      refine h x fun y hy => fun a w s => cx.step stepR_inLoop (ih (μ y) (by omega) y rfl a w s)
  exact fun a w s => cx.step stepR_loop (key _ x0 rfl a w s)
/-- Less may be known. -/
def SubE (env' env : Env) : Prop := ∀ t v, look env' t = some v → look env t = some v
theorem SubE.nil (env : Env) : SubE [] env := fun _ _ h => by simp [look] at h
theorem SubE.cons {env env' : Env} {t : Nat} {v : SV} (h : look env t = some v) (s : SubE env' env) : SubE ((t, v) :: env') env := fun u x e => by
  simp only [look] at e
  by_cases c : t = u
  · subst c
    rw [show Nat.beq t t = true by simp] at e
    cases e; exact h
  · rw [show Nat.beq t u = false by cases hb : Nat.beq t u with
        | false => rfl
        | true => exact absurd (Nat.eq_of_beq_eq_true hb) c] at e
    exact s u x e
theorem sx_less {env' : Env} {M r : List Ent} (he : SubE env' env) (hm : Take mem M r) (h : SX cx K ds k env' M) : SX cx K ds k env mem := fun a w s => by
  obtain ⟨h0, d, s1, s2, o⟩ := s.mem
  obtain ⟨k1, _, _, t1, _, hM, _⟩ := OSat.take hm o
  exact h a w ⟨s.ds, s.size, fun t v e => s.env t v (he t v e), ⟨k1, d.mono (Sub.refl _) t1, s1, t1.trans s2, hM⟩, s.os, s.out⟩
/-- Is the operation carried out? (Its guard, where it has one, is known.) -/
def guardE (ops : List Oper) (o : Oper) (env : Env) : Option Bool :=
  match o.guard with
  | none => some true
  | some (j, want) => match (ops[j]?).bind (·.dst) with
    | some d => match look env d with
      | some (.s (.o (.bool b))) => some (b == want)
      | some (.s (.o (.tuple _))) => some false
      | _ => none
    | none => none
theorem guardE_wanted {l : List Oper} {o : Oper} {a : Act} {x : Bool} (h : ESat env a) (g : guardE l o env = some x) : Region.wanted o (yielded l.toArray a.tmps) = x := by
  unfold guardE at g
  unfold Region.wanted
  cases hg : o.guard with
  | none => simp [hg] at g; simp [g]
  | some jw =>
    obtain ⟨j, want⟩ := jw
    simp only [hg] at g
    split at g
    · rename_i d hd
      split at g
      · rename_i b hb
        cases g
        have := h d _ hb
        simp [yielded, hd, this]
      · rename_i b hb
        cases g
        have := h d _ hb
        simp [yielded, hd, this]
      · cases g
    · cases g
end control
section regions
variable {P : Program} [Tab P] {N : Nat} {cx : Cx P N} {K : Hp} {ds : List Deferred} {k : List Item} {env : Env} {mem : List Ent}
/-- Operations with their places. -/
def numb : Nat → List Oper → List (Nat × Oper)
  | _, [] => []
  | i, o :: r => (i, o) :: numb (i + 1) r
theorem numb_spec : ∀ (l : List Oper) (i : Nat), (numb i l).map (·.1) = List.range' i l.length ∧ ∀ x ∈ numb i l, i ≤ x.1 ∧ l[x.1 - i]? = some x.2
  | [], i => by simp [numb]
  | o :: r, i => by
    obtain ⟨h1, h2⟩ := numb_spec r (i + 1)
    refine ⟨by simp [numb, h1, List.range'_succ], fun x hx => ?_⟩
    simp only [numb, List.mem_cons] at hx
    rcases hx with rfl | hx
    · simp
    · obtain ⟨g1, g2⟩ := h2 x hx
      refine ⟨by omega, ?_⟩
      rw [show x.1 - i = (x.1 - (i + 1)) + 1 by omega]
      simpa using g2
theorem sx_region {id : Nat} {l : List Oper} (h : SXo cx K ds ⟨l, false, []⟩ [] (numb 0 l) k env mem) : SX cx K ds (.code (.region id l.toArray false) :: k) env mem := fun a w s => by
  obtain ⟨e1, e2⟩ := numb_spec l 0
  have h1 := h (fun x hx => by simpa using (e2 x hx).2) a w [] s (fun x hx => by cases hx)
  rw [e1] at h1
  have h2 : wpL P l.toArray (fun a' w' => cx.T (lone (cx.b.atR a' k) cx.cs w')) (List.range' 0 l.length) a w := by
    refine wpL_of_text (H := []) ?_
    have f1 : Rg.lt P ⟨l, false, []⟩ = fun _ => false := rfl
    have f2 : Rg.fr P ⟨l, false, []⟩ = fun _ _ => false := rfl
    rw [f1, f2] at h1
    exact h1
  obtain ⟨a', w', hs, ht⟩ := wpL_steps h2 cx.b k cx.cs
  refine cx.back _ _ (.head stepR_region ?_) ht
  rwa [show List.range l.toArray.size = List.range' 0 l.length by simp [List.range_eq_range']]
/-- A plan's operations. -/
def planR (l : List Oper) : List Nat → List (Nat × Oper)
  | [] => []
  | i :: r => match l[i]? with
    | some o => (i, o) :: planR l r
    | none => planR l r
def nodupB : List Nat → Bool
  | [] => true
  | x :: r => r.all (fun y => !Nat.beq x y) && nodupB r
theorem nodupB_spec : ∀ {p : List Nat}, nodupB p = true → p.Nodup
  | [], _ => List.nodup_nil
  | x :: r, h => by
    simp only [nodupB, Bool.and_eq_true] at h
    refine List.nodup_cons.2 ⟨fun hx => ?_, nodupB_spec h.2⟩
    have := List.all_eq_true.1 h.1 x hx
    simp at this
def isPerm (n : Nat) (p : List Nat) : Bool := nodupB p && p.all (fun i => Nat.blt i n) && (List.range n).all fun i => p.any (Nat.beq i)
/-- The plan's masks: what must come before each operation. -/
def mkMasks (ops : Array Oper) : Nat → List Nat → List Nat
  | 0, acc => acc
  | n + 1, acc =>
    let m := (depsI ops acc.length).foldl (fun x e => x ||| 2 ^ e ||| acc.getD e 0) 0
    mkMasks ops n (acc ++ [m])
/-- The plan is good for the region. -/
def planOk (P : Program) [Tab P] (l : List Oper) (p : List Nat) (flo : List (Nat × Nat)) : Bool :=
  let ops := l.toArray
  let m := mkMasks ops l.length []
  let r : Rg := ⟨l, true, flo⟩
  isPerm l.length p && backOk ops && masksOk ops m && pairsOk ops m (r.lt P) (r.fr P) p
theorem planR_map (l : List Oper) : ∀ (p : List Nat), (∀ i ∈ p, i < l.length) → (planR l p).map (·.1) = p
  | [], _ => rfl
  | i :: r, h => by
    have hi := h i List.mem_cons_self
    simp only [planR, List.getElem?_eq_getElem hi, List.map_cons, planR_map l r fun j hj => h j (List.mem_cons_of_mem _ hj)]
theorem planR_mem (l : List Oper) : ∀ (p : List Nat), ∀ x ∈ planR l p, l[x.1]? = some x.2
  | [], x, hx => by cases hx
  | i :: r, x, hx => by
    simp only [planR] at hx
    split at hx
    · rename_i o ho
      rcases List.mem_cons.1 hx with rfl | hx
      · exact ho
      · exact planR_mem l r x hx
    · exact planR_mem l r x hx
theorem isPerm_spec {n : Nat} {p : List Nat} (h : isPerm n p = true) : p.Nodup ∧ ∀ i, i ∈ p ↔ i < n := by
  simp only [isPerm, Bool.and_eq_true] at h
  obtain ⟨⟨h1, h2⟩, h3⟩ := h
  refine ⟨nodupB_spec h1, fun i => ⟨fun hi => Nat.le_of_ble_eq_true (List.all_eq_true.1 h2 i hi), fun hi => ?_⟩⟩
  obtain ⟨j, hj, e⟩ := List.any_eq_true.1 (List.all_eq_true.1 h3 i (List.mem_range.2 hi))
  rw [Nat.eq_of_beq_eq_true e]; exact hj
/-- **A REGION WHOSE ORDER IS DRAWN**, by a plan. -/
theorem sx_draw {id : Nat} {l : List Oper} (hmx : P.follows .mixedOrders = true) (p : List Nat) (flo : List (Nat × Nat)) (hp : planOk P l p flo = true) (h : SXo cx K ds ⟨l, true, flo⟩ [] (planR l p) k env mem) :
    SX cx K ds (.code (.region id l.toArray true) :: k) env mem := fun a w s => by
  simp only [planOk, Bool.and_eq_true] at hp
  obtain ⟨⟨⟨h1, h2⟩, h3⟩, h4⟩ := hp
  obtain ⟨hn, hmem⟩ := isPerm_spec h1
  have s' : St cx K ds env mem a { w with drawn := w.drawn + 1 } := ⟨s.ds, s.size, s.env, s.mem, s.os, s.out⟩
  have hw := h (fun x hx => by simpa using planR_mem l p x hx) a _ [] s' (fun x hx => by cases hx)
  rw [planR_map l p fun i hi => (hmem i).1 hi] at hw
  have hL := wpL_of_plan h3 (linearise_valid h2 (w.tape w.drawn (.order cx.b.fn id))) (fun k hk => by cases hk) (fun i hi => by simp at hi; simp [hmem i, hi]) (fun i hi => by simpa using (hmem i).1 hi) hn h4 hw
  obtain ⟨a', w', hs, ht⟩ := wpL_steps hL cx.b k cx.cs
  refine cx.back _ _ (.head stepR_region_draw ?_) ht
  simp only [Region.schedule, hmx, Bool.true_or, if_true]
  exact hs
end regions
end Go.SX
