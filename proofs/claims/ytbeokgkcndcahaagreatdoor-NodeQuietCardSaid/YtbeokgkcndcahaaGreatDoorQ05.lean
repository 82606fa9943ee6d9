/-
  Operations that touch no memory, by one function that computes what they yield.
  The steps of a region's operations: what yields a value, loads, stores, new memory, calls.
  Contracts: what a call does, how a function's walk begins and ends, and a call by its contract.
  The table of types, held against the program's own by one computation.
-/
import Derived.Test.YtbeokgkcndcahaaGreatDoorQ04
import Derived.IntWalk
import Derived.Laws.Entries
import Derived.Laws.Tables
import Derived.KernelRfl
set_option linter.all false
namespace Go.SX

theorem wrap_i64 {n : Int} (h : -9223372036854775808 ≤ n ∧ n ≤ 9223372036854775807) : IntKind.i64.wrap n = n := IntWalk.i64_in _ (by omega)

/-- What integer operators yield, and what is owed for it. -/
def arith (op : BinOp) (k : IntKind) (a b : Int) : Option (Prop × Value) :=
  match op with
  | .add => match k with
    | .i64 => some (-9223372036854775808 ≤ a + b ∧ a + b ≤ 9223372036854775807, .int .i64 (a + b))
    | k => some (True, .int k (k.wrap (a + b)))
  | .sub => match k with
    | .i64 => some (-9223372036854775808 ≤ a - b ∧ a - b ≤ 9223372036854775807, .int .i64 (a - b))
    | k => some (True, .int k (k.wrap (a - b)))
  | .mul => match k with
    | .i64 => some (-9223372036854775808 ≤ a * b ∧ a * b ≤ 9223372036854775807, .int .i64 (a * b))
    | k => some (True, .int k (k.wrap (a * b)))
  | .quo => match k with
    | .i64 => some ((0 ≤ a ∧ a ≤ 9223372036854775807) ∧ 0 < b, .int .i64 (a / b))
    | _ => none
  | .rem => some (0 ≤ a ∧ 0 < b, .int k (a % b))
  | .and => some (True, .int k (k.wrap (BitVec.ofInt k.bits a &&& BitVec.ofInt k.bits b).toNat))
  | .or => some (True, .int k (k.wrap (BitVec.ofInt k.bits a ||| BitVec.ofInt k.bits b).toNat))
  | .xor => some (True, .int k (k.wrap (BitVec.ofInt k.bits a ^^^ BitVec.ofInt k.bits b).toNat))
  | .andNot => some (True, .int k (k.wrap (BitVec.ofInt k.bits a &&& ~~~ BitVec.ofInt k.bits b).toNat))
  | .eql => some (True, .bool (decide (a = b)))
  | .neq => some (True, .bool (!decide (a = b)))
  | .lss => some (True, .bool (decide (a < b)))
  | .leq => some (True, .bool (decide (a ≤ b)))
  | .gtr => some (True, .bool (decide (b < a)))
  | .geq => some (True, .bool (decide (b ≤ a)))
  | .shl => some (0 ≤ b, .int k (k.wrap (a * 2 ^ min b.toNat k.bits)))
  | .shr => some (0 ≤ b, .int k (a.fdiv (2 ^ min b.toNat k.bits)))
def kindEq : IntKind → IntKind → Bool
  | .i8, .i8 | .i16, .i16 | .i32, .i32 | .i64, .i64 | .u8, .u8 | .u16, .u16 | .u32, .u32 | .u64, .u64 => true
  | _, _ => false
theorem kindEq_eq {j k : IntKind} (h : kindEq j k = true) : j = k := by cases j <;> cases k <;> simp [kindEq] at h <;> rfl
theorem run_arith {P : Program} {op : BinOp} {k : IntKind} {a b : Int} {ob : Prop} {v : Value} {t : TypeId} (h : arith op k a b = some (ob, v)) (o : ob) (w : World) :
    (binOp op t (.int k a) (.int k b)).run P w = .ok v w := by
  cases op <;> simp only [arith] at h
  case add => cases k <;> simp only [Option.some.injEq, Prod.mk.injEq] at h <;> obtain ⟨rfl, rfl⟩ := h <;> simp [binOp, Op.intArith]; exact wrap_i64 o
  case sub => cases k <;> simp only [Option.some.injEq, Prod.mk.injEq] at h <;> obtain ⟨rfl, rfl⟩ := h <;> simp [binOp, Op.intArith]; exact wrap_i64 o
  case mul => cases k <;> simp only [Option.some.injEq, Prod.mk.injEq] at h <;> obtain ⟨rfl, rfl⟩ := h <;> simp [binOp, Op.intArith]; exact wrap_i64 o
  case quo =>
    cases k <;> simp only [Option.some.injEq, Prod.mk.injEq, reduceCtorEq] at h
    obtain ⟨rfl, rfl⟩ := h
    obtain ⟨⟨h1, h2⟩, h3⟩ := o
    have e : a.tdiv b = a / b := Int.tdiv_eq_ediv_of_nonneg h1
    have l : a / b ≤ a := Int.ediv_le_self b h1
    have g : 0 ≤ a / b := Int.ediv_nonneg h1 (by omega)
    simp [binOp, Op.intDiv, show b ≠ 0 by omega, e]
    exact wrap_i64 (by omega)
  case rem =>
    simp only [Option.some.injEq, Prod.mk.injEq] at h
    obtain ⟨rfl, rfl⟩ := h
    simp [binOp, Op.intDiv, show b ≠ 0 by omega, Int.tmod_eq_emod_of_nonneg o.1]
  all_goals simp only [Option.some.injEq, Prod.mk.injEq] at h; obtain ⟨rfl, rfl⟩ := h
  case shl => simp [binOp, Op.shift, show ¬ b < 0 by omega]
  case shr => simp [binOp, Op.shift, show ¬ b < 0 by omega]
  case eql => simp [binOp, Op.intCmp]; exact Bool.eq_iff_iff.2 (by simp)
  case neq => simp [binOp, Op.intCmp]; exact Bool.eq_iff_iff.2 (by simp)
  all_goals simp [binOp, Op.intBits, Op.intCmp]

def strArith (op : BinOp) (a b : ByteArray) : Option (Prop × Value) :=
  match op with
  | .add => some (a.size + b.size ≤ 9223372036854775807, .string (a ++ b))
  | .eql => some (True, .bool (a.toList == b.toList))
  | .neq => some (True, .bool (!(a.toList == b.toList)))
  | .lss => some (True, .bool (Op.bytesLess a.toList b.toList))
  | .geq => some (True, .bool (!Op.bytesLess a.toList b.toList))
  | _ => none
theorem run_strArith {P : Program} {op : BinOp} {a b : ByteArray} {ob : Prop} {v : Value} {t : TypeId} (h : strArith op a b = some (ob, v)) (o : ob) (w : World) :
    (binOp op t (.string a) (.string b)).run P w = .ok v w := by
  cases op <;> simp only [strArith, Option.some.injEq, Prod.mk.injEq, reduceCtorEq] at h <;> obtain ⟨rfl, rfl⟩ := h <;> simp [binOp, Op.stringOp]
  all_goals omega

/-- A part of cells: n of them from 'off' on; the cuts must fall between stretches. -/
def dropCh : List Ch → Nat → Option (List Ch)
  | l, 0 => some l
  | [], _ + 1 => none
  | x :: r, off + 1 => match Nat.ble x.w (off + 1) with
    | true => dropCh r (off + 1 - x.w)
    | false => none
def takeCh : List Ch → Nat → Option (List Ch)
  | _, 0 => some []
  | [], _ + 1 => none
  | x :: r, n + 1 => match Nat.ble x.w (n + 1) with
    | true => match takeCh r (n + 1 - x.w) with
      | some l => some (x :: l)
      | none => none
    | false => none
theorem Ch.w_pos (x : Ch) : 1 ≤ x.w := by cases x <;> simp [Ch.w]
theorem dropCh_spec : ∀ {l r : List Ch} {off : Nat}, dropCh l off = some r → ∃ p, l = p ++ r ∧ flatW p = off
  | l, r, 0, h => by cases l <;> (simp [dropCh] at h; exact ⟨[], by simp [h], rfl⟩)
  | [], r, _ + 1, h => by simp [dropCh] at h
  | x :: l, r, off + 1, h => by
    simp only [dropCh] at h
    split at h
    · rename_i hb
      have hle := Nat.le_of_ble_eq_true hb
      obtain ⟨p, e, hw⟩ := dropCh_spec h
      exact ⟨x :: p, by simp [e], by simp [flatW, hw]; omega⟩
    · cases h
termination_by l => l.length
theorem takeCh_spec : ∀ {l r : List Ch} {n : Nat}, takeCh l n = some r → ∃ q, l = r ++ q ∧ flatW r = n
  | l, r, 0, h => by cases l <;> (simp [takeCh] at h; subst h; exact ⟨_, rfl, rfl⟩)
  | [], r, _ + 1, h => by simp [takeCh] at h
  | x :: l, r, n + 1, h => by
    simp only [takeCh] at h
    split at h
    · rename_i hb
      have hle := Nat.le_of_ble_eq_true hb
      split at h
      · rename_i l' hl
        cases h
        obtain ⟨q, e, hw⟩ := takeCh_spec hl
        exact ⟨q, by simp [e], by simp [flatW, hw]; omega⟩
      · cases h
    · cases h
termination_by l => l.length
/-- The part of a type: the one cell, or an aggregate. -/
def partV (i : TInf) (l : List Ch) (off : Nat) : Option SV1 :=
  match dropCh l off with
  | some r => match i.agg with
    | true => match takeCh r i.size with
      | some q => some (.g q)
      | none => none
    | false => match r with
      | .c v :: _ => some (.o v)
      | _ => none
  | none => none
theorem partV_run {P : Program} {t : TypeId} {i : TInf} (ht : TOk P t i) {l : List Ch} {off : Nat} {v : SV1} (h : partV i l off = some v) (w : World) :
    (part t (flat l).toArray off).run P w = .ok v.val w := by
  unfold partV at h
  split at h
  · rename_i r hr
    obtain ⟨p, rfl, hp⟩ := dropCh_spec hr
    split at h
    · rename_i ha
      split at h
      · rename_i q hq
        cases h
        obtain ⟨q', rfl, hw⟩ := takeCh_spec hq
        have hz : (flat q).length = i.size := by rw [flat_length, hw]
        have hy : (flat p).length = off := by rw [flat_length, hp]
        simp [part, ht.isAgg, ha, ht.size, flat_append, agv]
        rw [← hz, ← hy]; simp
      · cases h
    · rename_i ha
      split at h
      · rename_i u r' 
        cases h
        have hy : (flat p).length = off := by rw [flat_length, hp]
        simp [part, ht.isAgg, ha, flat_append, flat, Ch.vals]
        rw [← hy]; simp
      · cases h
  · cases h

/-- Parts put into an aggregate, one behind the other. -/
def putCh (l : List Ch) (off n : Nat) (q : List Ch) : Option (List Ch) :=
  match takeCh l off with
  | some p => match dropCh l (off + n) with
    | some r => match Nat.beq (flatW q) n with
      | true => some (p ++ (q ++ r))
      | false => none
    | none => none
  | none => none
theorem putCh_spec {l q r : List Ch} {off n : Nat} (h : putCh l off n q = some r) : ∃ p m s, l = p ++ (m ++ s) ∧ r = p ++ (q ++ s) ∧ flatW p = off ∧ flatW m = n ∧ flatW q = n := by
  unfold putCh at h
  split at h <;> try (cases h; done)
  rename_i p hp
  split at h <;> try (cases h; done)
  rename_i s hs
  split at h <;> try (cases h; done)
  rename_i hq
  cases h
  obtain ⟨t, rfl, hw⟩ := takeCh_spec hp
  obtain ⟨u, e, hu⟩ := dropCh_spec hs
  have hq' : flatW q = n := Nat.eq_of_beq_eq_true hq
  -- cut t at n
  have hl : flat p ++ flat t = flat u ++ flat s := by rw [← flat_append, ← flat_append, e]
  have key : ∀ (a b c d : List Ch), a ++ b = c ++ d → flatW a ≤ flatW c → ∃ m, c = a ++ m ∧ b = m ++ d := by
    intro a
    induction a with
    | nil => exact fun b c d h _ => ⟨c, rfl, h⟩
    | cons x a ih =>
      intro b c d h hle
      cases c with
      | nil => simp [flatW] at hle; have := x.w_pos; omega
      | cons y c =>
        simp only [List.cons_append, List.cons.injEq] at h
        obtain ⟨rfl, h⟩ := h
        obtain ⟨m, rfl, hb⟩ := ih b c d h (by simp [flatW] at hle; omega)
        exact ⟨m, rfl, hb⟩
  obtain ⟨m, rfl, ht⟩ := key p t u s e (by omega)
  have hadd : ∀ a b : List Ch, flatW (a ++ b) = flatW a + flatW b := by
    intro a b; rw [← flat_length, ← flat_length, ← flat_length, flat_append]; simp
  exact ⟨p, m, s, by rw [ht], rfl, hw, by have := hadd p m; omega, hq'⟩

variable {P : Program} [Tab P]
/-- What an operation yields that touches no memory, and what is owed for it. -/
def pureOp (P : Program) [Tab P] (env : Env) (op : Op) : Option (Prop × SV) :=
  match op with
  | .move x | .assign x => match ev env x with
    | some v => some (True, v)
    | none => none
  | .pick c x y => match ev env c with
    | some (.s (.o (.bool true))) => match ev env x with
      | some v => some (True, v)
      | none => none
    | some (.s (.o (.bool false))) => match ev env y with
      | some v => some (True, v)
      | none => none
    | _ => none
  | .nilCheck x => match ev env x with
    | some (.s (.o (.pointer (some p)))) => some (True, .s (.o (.pointer (some p))))
    | some (.s (.o (.func (.func f) a b))) => some (True, .s (.o (.func (.func f) a b)))
    | _ => none
  | .binOp op _ x y _ => match ev env x, ev env y with
    | some (.s (.o (.int k a))), some (.s (.o (.int k' b))) => match kindEq k k' with
      | true => match arith op k a b with
        | some (ob, v) => some (ob, .s (.o v))
        | none => none
      | false => match op with
        | .shl => some (0 ≤ b, .s (.o (.int k (k.wrap (a * 2 ^ min b.toNat k.bits)))))
        | .shr => some (0 ≤ b, .s (.o (.int k (a.fdiv (2 ^ min b.toNat k.bits)))))
        | _ => none
    | some (.s (.o (.string a))), some (.s (.o (.string b))) => match strArith op a b with
      | some (ob, v) => some (ob, .s (.o v))
      | none => none
    | _, _ => none
  | .unOp op _ x => match op, ev env x with
    | .not, some (.s (.o (.bool b))) => some (True, .s (.o (.bool (!b))))
    | .neg, some (.s (.o (.int .i64 n))) => some (-9223372036854775808 ≤ 0 - n ∧ 0 - n ≤ 9223372036854775807, .s (.o (.int .i64 (0 - n))))
    | .xor, some (.s (.o (.int .u64 n))) => some (True, .s (.o (.int .u64 (IntKind.u64.wrap (BitVec.ofInt 64 IntKind.u64.max ^^^ BitVec.ofInt 64 n).toNat))))
    | _, _ => none
  | .extract x i => match ev env x with
    | some (.t l) => match l[i]? with
      | some v => some (True, .s v)
      | none => none
    | _ => none
  | .fieldAddr s x f => match ev env x with
    | some (.s (.o (.pointer (some ⟨b, off, none⟩)))) => match Tab.ti P s with
      | some i => match i.d with
        | .struct fs => match fs[f]? with
          | some (fo, ft) => match Tab.ti P ft with
            | some j => match Nat.beq j.size 0 with
              | false => some (True, .s (.o (.pointer (some ⟨b, off + fo, none⟩))))
              | true => none
            | none => none
          | none => none
        | _ => none
      | none => none
    | _ => none
  | .field s x f => match ev env x with
    | some (.s (.g q)) => match Tab.ti P s with
      | some i => match i.d with
        | .struct fs => match fs[f]? with
          | some (fo, ft) => match Tab.ti P ft with
            | some j => match partV j q fo with
              | some v => some (True, .s v)
              | none => none
            | none => none
          | none => none
        | _ => none
      | none => none
    | _ => none
  | .makeFunc fn first captured => match evs env first.toList, evs env captured.toList with
    | some a, some b => some (True, .s (.o (.func fn (a.map SV1.val).toArray (b.map SV1.val).toArray)))
    | _, _ => none
  | _ => none
theorem Addr.add_plain (b off n : Nat) : (⟨b, off, none⟩ : Addr).add n = ⟨b, off + n, none⟩ := by
  unfold Addr.add
  by_cases h : n = 0 <;> simp [h]
theorem struct_field {s : TypeId} {i : TInf} {fs : List (Nat × TypeId)} {f fo : Nat} {ft : TypeId} (hi : Tab.ti P s = some i) (hd : i.d = .struct fs) (hf : fs[f]? = some (fo, ft)) :
    ∃ (ff : Array Field) (fd : Field), P.underlying s = some (.struct ff) ∧ ff[f]? = some fd ∧ fd.offset = fo ∧ fd.type = ft := by
  have h1 := (Tab.ok s i hi).desc
  rw [hd] at h1
  obtain ⟨ff, hu, hm⟩ := h1
  have h2 : ff.toList[f]?.map (fun f => (f.offset, f.type)) = some (fo, ft) := by rw [← List.getElem?_map, hm, hf]
  obtain ⟨fd, hfd, hpair⟩ := Option.map_eq_some_iff.1 h2
  cases hpair
  exact ⟨ff, fd, hu, by simpa using hfd, rfl, rfl⟩
theorem pureOp_run {env : Env} {o : Oper} {ob : Prop} {v : SV} (h : pureOp P env o.op = some (ob, v)) (hob : ob) {a : Act} (he : ESat env a) (w : World) :
    (execOp a.eval o).run P w = .ok (.value v.val) w := by
  unfold pureOp at h
  cases hop : o.op <;> simp only [hop, reduceCtorEq] at h
  case move x => split at h <;> simp only [Option.some.injEq, Prod.mk.injEq, reduceCtorEq] at h; rename_i u hu; obtain ⟨rfl, rfl⟩ := h; simp [execOp, hop, he.eval hu]
  case assign x => split at h <;> simp only [Option.some.injEq, Prod.mk.injEq, reduceCtorEq] at h; rename_i u hu; obtain ⟨rfl, rfl⟩ := h; simp [execOp, hop, he.eval hu]
  case pick c x y =>
    split at h <;> try (simp only [reduceCtorEq] at h; done)
    · rename_i hc
      split at h <;> simp only [Option.some.injEq, Prod.mk.injEq, reduceCtorEq] at h
      rename_i u hu; obtain ⟨rfl, rfl⟩ := h; simp [execOp, hop, he.eval hu, he.eval hc, asBool]
    · rename_i hc
      split at h <;> simp only [Option.some.injEq, Prod.mk.injEq, reduceCtorEq] at h
      rename_i u hu; obtain ⟨rfl, rfl⟩ := h; simp [execOp, hop, he.eval hu, he.eval hc, asBool]
  case nilCheck x =>
    split at h <;> simp only [Option.some.injEq, Prod.mk.injEq, reduceCtorEq] at h
    · rename_i p hp; obtain ⟨rfl, rfl⟩ := h; simp [execOp, hop, he.eval hp]
    · rename_i f a' b' hp; obtain ⟨rfl, rfl⟩ := h; simp [execOp, hop, he.eval hp]
  case binOp op t x y u =>
    split at h
    · rename_i k n k' m hx hy
      have eg : ∀ p q : Operand, (eqGuard op t p q (.int k n) (.int k' m)).run P w = .ok () w := by intro p q; unfold eqGuard; split <;> simp
      split at h
      · rename_i hk
        cases kindEq_eq hk
        split at h <;> simp only [Option.some.injEq, Prod.mk.injEq, reduceCtorEq] at h
        rename_i ob' v' ha
        obtain ⟨rfl, rfl⟩ := h
        have := run_arith (P := P) (t := t) ha hob w
        simp [execOp, hop, he.eval hx, he.eval hy, eg, this]
      · split at h <;> simp only [Option.some.injEq, Prod.mk.injEq, reduceCtorEq] at h
        · obtain ⟨rfl, rfl⟩ := h
          simp [execOp, hop, he.eval hx, he.eval hy, eg, binOp, Op.shift, show ¬ m < 0 by omega]
        · obtain ⟨rfl, rfl⟩ := h
          simp [execOp, hop, he.eval hx, he.eval hy, eg, binOp, Op.shift, show ¬ m < 0 by omega]
    · rename_i s1 s2 hx hy
      have eg : ∀ p q : Operand, (eqGuard op t p q (.string s1) (.string s2)).run P w = .ok () w := by intro p q; unfold eqGuard; split <;> simp
      split at h <;> simp only [Option.some.injEq, Prod.mk.injEq, reduceCtorEq] at h
      rename_i ob' v' ha
      obtain ⟨rfl, rfl⟩ := h
      have := run_strArith (P := P) (t := t) ha hob w
      simp [execOp, hop, he.eval hx, he.eval hy, eg, this]
    · cases h
  case unOp op t x =>
    split at h <;> simp only [Option.some.injEq, Prod.mk.injEq, reduceCtorEq] at h
    · rename_i b hb; obtain ⟨rfl, rfl⟩ := h; simp [execOp, hop, he.eval hb, Op.unary]
    · rename_i n hb; obtain ⟨rfl, rfl⟩ := h; simp [execOp, hop, he.eval hb, Op.unary, Op.intArith]; have := wrap_i64 hob; simpa using this
    · rename_i n hb; obtain ⟨rfl, rfl⟩ := h; simp [execOp, hop, he.eval hb, Op.unary, Op.intBits, IntKind.signed]; rfl
  case extract x i =>
    split at h
    · rename_i l hv
      split at h <;> simp only [Option.some.injEq, Prod.mk.injEq, reduceCtorEq] at h
      rename_i u hu; obtain ⟨rfl, rfl⟩ := h
      have : (l.map SV1.val).toArray[i]? = some u.val := by simp [hu]
      have e := he.eval hv
      simp only [SV.val] at e
      simp [execOp, hop, e, Instr.extract, hu]
    · cases h
  case fieldAddr s x f =>
    split at h <;> try (cases h; done)
    rename_i b off hx
    split at h <;> try (cases h; done)
    rename_i i hi
    split at h <;> try (cases h; done)
    rename_i fs hd
    split at h <;> try (cases h; done)
    rename_i fo ft hf
    split at h <;> try (cases h; done)
    rename_i j hj
    split at h <;> try (cases h; done)
    rename_i hz
    simp only [Option.some.injEq, Prod.mk.injEq] at h
    obtain ⟨rfl, rfl⟩ := h
    obtain ⟨ff, fd, hu, hfd, rfl, rfl⟩ := struct_field hi hd hf
    have hne : ¬ j.size = 0 := by intro e; rw [e] at hz; simp at hz
    have hrun : (underlying s).run P w = .ok (.struct ff) w := run_underlying hu w
    have hs := (Tab.ok fd.type j hj).size w
    simp [execOp, hop, he.eval hx, Instr.fieldAt, hrun, hfd, Instr.sureAddr, fieldPlace, hs, hne, Addr.add_plain]
  case field s x f =>
    split at h <;> try (cases h; done)
    rename_i q hx
    split at h <;> try (cases h; done)
    rename_i i hi
    split at h <;> try (cases h; done)
    rename_i fs hd
    split at h <;> try (cases h; done)
    rename_i fo ft hf
    split at h <;> try (cases h; done)
    rename_i j hj
    split at h <;> try (cases h; done)
    rename_i u hu
    simp only [Option.some.injEq, Prod.mk.injEq] at h
    obtain ⟨rfl, rfl⟩ := h
    obtain ⟨ff, fd, hun, hfd, rfl, rfl⟩ := struct_field hi hd hf
    have hrun : (underlying s).run P w = .ok (.struct ff) w := run_underlying hun w
    have hp := partV_run (Tab.ok fd.type j hj) hu w
    have e := he.eval hx
    simp only [SV.val, SV1.val, agv] at e
    simp [execOp, hop, e, Instr.field, hrun, hfd, asAgg, hp]
  case makeFunc fn first captured =>
    split at h <;> simp only [Option.some.injEq, Prod.mk.injEq, reduceCtorEq] at h
    rename_i p q hp hq
    obtain ⟨rfl, rfl⟩ := h
    have e1 := he.evals hp
    have e2 := he.evals hq
    have f1 : first.map a.eval = (p.map SV1.val).toArray := by apply Array.toList_inj.1; simp [e1]
    have f2 : captured.map a.eval = (q.map SV1.val).toArray := by apply Array.toList_inj.1; simp [e2]
    simp [execOp, hop, Instr.makeFunc, f1, f2]
end Go.SX

namespace Go.SX

theorem vw_setRow {w : World} {g : Nat} {old cs : Array Value} {t : TypeId} {fr : Nat × Nat} (h : vw w g = some (.cells old t fr)) : vw (w.setRow g cs) = put (vw w) g (.cells cs t fr) := by
  funext k
  unfold vw at *
  by_cases e : k = g
  · subst e; rw [put_self]; exact setRow_heap w k old cs t fr h
  · rw [put_ne _ _ e]
    simp [World.setRow, Array.getElem?_modify, Ne.symm e]
theorem setRow_os (w : World) (g : Nat) (cs : Array Value) : (w.setRow g cs).os = w.os := rfl
theorem setRow_out (w : World) (g : Nat) (cs : Array Value) : (w.setRow g cs).output = w.output := rfl

/-! ### Memory's moves, by entries -/
section mem
variable {K H : Hp} {m r : List Ent}
theorem MSat.pick {e : Ent} (p : Pick m e r) (s : MSat K m H) : MSat K (e :: r) H := by
  obtain ⟨h, d, s1, s2, o⟩ := s; exact ⟨h, d, s1, s2, OSat.pick p o⟩
theorem MSat.unpick {e : Ent} (p : Pick m e r) (s : MSat K (e :: r) H) : MSat K m H := by
  obtain ⟨h, d, s1, s2, o⟩ := s; exact ⟨h, d, s1, s2, OSat.unpick p o⟩
/-- The first entry's own part, and all else. -/
theorem MSat.head {e : Ent} (s : MSat K (e :: r) H) : ∃ h1 h2, Dj h1 h2 ∧ Dj K h1 ∧ Dj K h2 ∧ Sub h1 H ∧ Sub h2 H ∧ Sub K H ∧ e.den h1 ∧ OSat r h2 := by
  obtain ⟨h, d, s1, s2, h1, h2, d', t1, t2, he, hr⟩ := s
  exact ⟨h1, h2, d', d.mono (Sub.refl _) t1, d.mono (Sub.refl _) t2, t1.trans s2, t2.trans s2, s1, he, hr⟩
/-- ... put together again. -/
theorem MSat.mk {e : Ent} {h1 h2 : Hp} (d : Dj h1 h2) (d1 : Dj K h1) (d2 : Dj K h2) (s1 : Sub h1 H) (s2 : Sub h2 H) (sK : Sub K H) (he : e.den h1) (hr : OSat r h2) : MSat K (e :: r) H :=
  ⟨un h1 h2, Dj.un_right d1 d2, sK, un_sub s1 s2, h1, h2, d, sub_un_left _ _, sub_un_right d, he, hr⟩
theorem MSat.drop {e : Ent} (s : MSat K (e :: r) H) : MSat K r H := by
  obtain ⟨h1, h2, _, _, d2, _, s2, sK, _, hr⟩ := s.head; exact ⟨h2, d2, sK, s2, hr⟩
theorem MSat.blk {b : Nat} {T : TypeId} {cs : List Ch} (s : MSat K (.blk b T cs :: r) H) : H b = some (.cells (flat cs).toArray T (0, 0)) := by
  obtain ⟨h1, _, _, _, _, s1, _, _, he, _⟩ := s.head; exact s1 _ _ he
/-- A block of one's own is turned: nothing else is touched. -/
theorem MSat.turn {e e' : Ent} {b : Nat} {o : Obj} (s : MSat K (e :: r) H) (hb : ∀ h1, e.den h1 → (h1 b).isSome) (he' : ∀ h1, Sub h1 H → e.den h1 → e'.den (SX.put h1 b o)) : MSat K (e' :: r) (SX.put H b o) := by
  obtain ⟨h1, h2, d, d1, d2, s1, s2, sK, he, hr⟩ := s.head
  obtain ⟨o1, ho1⟩ := Option.isSome_iff_exists.1 (hb h1 he)
  have n2 : h2 b = none := by
    cases e2 : h2 b with
    | none => rfl
    | some o2 => exact (d b o1 o2 ho1 e2).elim
  have nK : K b = none := by
    cases e2 : K b with
    | none => rfl
    | some o2 => exact (d1 b o2 o1 e2 ho1).elim
  refine MSat.mk (h1 := SX.put h1 b o) (h2 := h2) ?_ ?_ d2 (Sub.put_both s1 b o) (Sub.put s2 o n2) (Sub.put sK o nK) (he' h1 s1 he) hr
  · intro k x y hx hy
    by_cases c : k = b
    · subst c; rw [n2] at hy; cases hy
    · rw [put_ne _ _ c] at hx; exact d k x y hx hy
  · intro k x y hx hy
    by_cases c : k = b
    · subst c; rw [nK] at hx; cases hx
    · rw [put_ne _ _ c] at hy; exact d1 k x y hx hy
/-- A new block. -/
theorem MSat.new {e : Ent} {b : Nat} {o : Obj} (s : MSat K r H) (hb : H b = none) (he : e.den (one b o)) : MSat K (e :: r) (fun k => if k = b then some o else H k) := by
  obtain ⟨h, d, s1, s2, hr⟩ := s
  have up : ∀ {h' : Hp}, Sub h' H → Sub h' (fun k => if k = b then some o else H k) := by
    intro h' s' k x hx
    have : H k = some x := s' k x hx
    by_cases c : k = b
    · subst c; rw [hb] at this; cases this
    · simp [c, this]
  have n : ∀ {h' : Hp}, Sub h' H → h' b = none := by
    intro h' s'
    cases e2 : h' b with
    | none => rfl
    | some o2 => have := s' b o2 e2; rw [hb] at this; cases this
  exact MSat.mk (one_dj (n s2)) ((one_dj (n s1)).symm) d (one_sub (by simp)) (up s2) (up s1) he hr
end mem

section
variable {P : Program} [Tab P] {N : Nat} {cx : Cx P N} {K : Hp} {ds : List Deferred} {k : List Item} {env : Env} {mem : List Ent} {rg : Rg} {H : List HE} {R : List (Nat × Oper)} {i : Nat} {o : Oper}

theorem sxo_end (h : SX cx K ds k env mem) : SXo cx K ds rg H [] k env mem := fun _ a w _ s _ => h a w s
/-- One operation that acts. -/
theorem sxo_act (hl : rg.lt P i = false) (hg : guardE rg.ops o env = some true) (hp : plainOp o.op = true)
    (h : ∀ a w, St cx K ds env mem a w → OW P o a w fun v w' => ∃ env' mem' ds', St cx K ds' env' mem' (a.put o.dst v) w' ∧ (∀ x ∈ H, rg.fr P x.idx i = true → x.chk mem') ∧ SXo cx K ds' rg H R k env' mem') :
    SXo cx K ds rg H ((i, o) :: R) k env mem := by
  intro hR a w Hs s hH
  have h0 : rg.ops.toArray[i]? = some o := hR (i, o) List.mem_cons_self
  have hw : Region.wanted o (yielded rg.ops.toArray a.tmps) = true := guardE_wanted s.env hg
  simp only [List.map_cons, wpH, stp, hl]
  refine ⟨o, h0, hp, ?_⟩
  rw [if_pos hw]
  refine (h a w s).mono ?_
  rintro v w' ⟨env', mem', ds', s', hc, hs⟩
  refine ⟨fun x hx hf => ?_, hs (fun y hy => hR y (List.mem_cons_of_mem _ hy)) _ _ _ s' hH⟩
  rcases hH x hx with h1 | h1 | ⟨y, hy, hyi, hyc⟩
  · exact h1 w'
  · rw [h1 i] at hf; cases hf
  · rw [← hyi] at hf
    exact hyc mem' w' (hc y hy hf) s'.mem
/-- One that is passed over. -/
theorem sxo_pass (hg : guardE rg.ops o env = some false) (hp : plainOp o.op = true) (hd : dstOk N o.dst = true)
    (h : SXo cx K ds rg H R k (setE env o.dst (.s (.o undef))) mem) (hH : ∀ x ∈ H, rg.fr P x.idx i = true → x.chk mem := by repeat (first | exact hh_nil | refine hh_free rfl ?_ | refine hh_chk ⟨_, _, _, (by first | exact .head | exact .tail .head | exact .tail (.tail .head) | exact .tail (.tail (.tail .head)) | exact .tail (.tail (.tail (.tail .head)))), (by rfl)⟩ ?_ | refine hh_chk trivial ?_)) : SXo cx K ds rg H ((i, o) :: R) k env mem := by
  intro hR a w Hs s hHs
  have h0 : rg.ops.toArray[i]? = some o := hR (i, o) List.mem_cons_self
  have hw : Region.wanted o (yielded rg.ops.toArray a.tmps) = false := guardE_wanted s.env hg
  have s' : St cx K ds (setE env o.dst (.s (.o undef))) mem (a.put o.dst undef) w :=
    ⟨by rw [Act.put_def]; exact s.ds, by rw [Act.put_size]; exact s.size, s.env.put s.size hd (.s (.o undef)), s.mem, s.os, s.out⟩
  have hy : ∀ w0, Yld P rg.ops.toArray i undef a w0 := fun w0 => ⟨o, h0, hp, .inr ⟨hw, rfl⟩⟩
  have hput : putI rg.ops.toArray i undef a = a.put o.dst undef := by unfold putI; rw [h0]; rfl
  simp only [List.map_cons, wpH, stp]
  cases hl : rg.lt P i with
  | true =>
    refine ⟨undef, hy w, ?_⟩
    rw [hput]
    refine h (fun y hy => hR y (List.mem_cons_of_mem _ hy)) _ _ _ s' ?_
    intro x hx
    rcases List.mem_cons.1 hx with rfl | hx
    · exact .inl hy
    · exact hHs x hx
  | false =>
    refine (hy w).opW ?_
    rw [hput]
    refine ⟨fun x hx hf => ?_, h (fun y hy => hR y (List.mem_cons_of_mem _ hy)) _ _ _ s' hHs⟩
    rcases hHs x hx with h1 | h1 | ⟨y, hy', hyi, hyc⟩
    · exact h1 w
    · rw [h1 i] at hf; cases hf
    · rw [← hyi] at hf
      exact hyc mem w (hH y hy' hf) s.mem
/-- What becomes of the note on a read: it hangs on temporaries alone; or nothing that acts may come before it; or it is kept. -/
inductive Rec (P : Program) [Tab P] (rg : Rg) (i : Nat) (o : Oper) (pu : Prop) (chk : List Ent → Prop) (H : List HE) : List HE → Prop where
  | pure (h : pu) : Rec P rg i o pu chk H H
  | still (h1 : pureKind P o.op = false) (h2 : rg.flo.any (fun x => Nat.beq x.1 i) = false) : Rec P rg i o pu chk H H
  | keep : Rec P rg i o pu chk H (⟨i, chk⟩ :: H)
theorem fr_false {k : Nat} (h0 : rg.ops.toArray[i]? = some o) (h1 : pureKind P o.op = false) (h2 : rg.flo.any (fun x => Nat.beq x.1 i) = false) : rg.fr P i k = false := by
  unfold Rg.fr
  split
  · rw [h0]
    simp only [h1, Bool.false_or]
    cases hc : rg.flo.any fun x => Nat.beq x.1 i && Nat.beq x.2 k with
    | false => rfl
    | true =>
      obtain ⟨x, hx, he⟩ := List.any_eq_true.1 hc
      simp only [Bool.and_eq_true] at he
      have : rg.flo.any (fun x => Nat.beq x.1 i) = true := List.any_eq_true.2 ⟨x, hx, he.1⟩
      rw [h2] at this; cases this
  · rfl
/-- One that yields a value and leaves memory alone. -/
theorem sxo_val {v : SV} {pu : Prop} {chk : List Ent → Prop} {H' : List HE} (hg : guardE rg.ops o env = some true) (hp : plainOp o.op = true) (hd : dstOk N o.dst = true)
    (hr : ∀ a w, St cx K ds env mem a w → (execOp a.eval o).run P w = .ok (.value v.val) w) (hrec : Rec P rg i o pu chk H H')
    (hpu : pu → ∀ a, ESat env a → ∀ w, (execOp a.eval o).run P w = .ok (.value v.val) w)
    (hchk : ∀ m, chk m → ∀ a, ESat env a → ∀ w, MSat K m (vw w) → (execOp a.eval o).run P w = .ok (.value v.val) w)
    (hH : ∀ x ∈ H, rg.fr P x.idx i = true → x.chk mem)
    (h : SXo cx K ds rg H' R k (setE env o.dst v) mem) : SXo cx K ds rg H ((i, o) :: R) k env mem := by
  intro hR a w Hs s hHs
  have h0 : rg.ops.toArray[i]? = some o := hR (i, o) List.mem_cons_self
  have hw : Region.wanted o (yielded rg.ops.toArray a.tmps) = true := guardE_wanted s.env hg
  have s' : St cx K ds (setE env o.dst v) mem (a.put o.dst v.val) w :=
    ⟨by rw [Act.put_def]; exact s.ds, by rw [Act.put_size]; exact s.size, s.env.put s.size hd v, s.mem, s.os, s.out⟩
  have hy : Yld P rg.ops.toArray i v.val a w := ⟨o, h0, hp, .inl ⟨hw, hr a w s⟩⟩
  have hput : putI rg.ops.toArray i v.val a = a.put o.dst v.val := by unfold putI; rw [h0]; rfl
  have hHs' : HOk (P := P) K rg H' Hs := by
    intro x hx
    rcases hHs x hx with h1 | h1 | ⟨y, hy', hyi, hyc⟩
    · exact .inl h1
    · exact .inr (.inl h1)
    · refine .inr (.inr ⟨y, ?_, hyi, hyc⟩)
      cases hrec with
      | pure _ => exact hy'
      | still _ _ => exact hy'
      | keep => exact List.mem_cons_of_mem _ hy'
  simp only [List.map_cons, wpH, stp]
  cases hl : rg.lt P i with
  | true =>
    refine ⟨v.val, hy, ?_⟩
    rw [hput]
    refine h (fun y hy => hR y (List.mem_cons_of_mem _ hy)) _ _ _ s' ?_
    intro x hx
    rcases List.mem_cons.1 hx with rfl | hx
    · cases hrec with
      | pure hh => exact .inl fun w0 => ⟨o, h0, hp, .inl ⟨hw, hpu hh a s.env w0⟩⟩
      | still h1 h2 => exact .inr (.inl fun k => fr_false h0 h1 h2)
      | keep => exact .inr (.inr ⟨⟨i, chk⟩, List.mem_cons_self, rfl, fun m w0 hm hs => ⟨o, h0, hp, .inl ⟨hw, hchk m hm a s.env w0 hs⟩⟩⟩)
    · exact hHs' x hx
  | false =>
    refine hy.opW ?_
    rw [hput]
    refine ⟨fun x hx hf => ?_, h (fun y hy => hR y (List.mem_cons_of_mem _ hy)) _ _ _ s' hHs'⟩
    rcases hHs x hx with h1 | h1 | ⟨y, hy', hyi, hyc⟩
    · exact h1 w
    · rw [h1 i] at hf; cases hf
    · rw [← hyi] at hf
      exact hyc mem w (hH y hy' hf) s.mem
/-- A test's answer is not known: each of the two. -/
theorem sxo_split {t : Nat} {x : Bool} (hx : look env t = some (.s (.o (.bool x)))) (h1 : x = true → SXo cx K ds rg H R k ((t, .s (.o (.bool true))) :: env) mem)
    (h2 : x = false → SXo cx K ds rg H R k ((t, .s (.o (.bool false))) :: env) mem) : SXo cx K ds rg H R k env mem := by
  intro hj a w Hs s hHs
  have e := s.env t _ hx
  have up : ∀ y, x = y → ESat ((t, .s (.o (.bool y))) :: env) a := by
    rintro y rfl u v hv
    simp only [look] at hv
    by_cases c : t = u
    · subst c
      rw [show Nat.beq t t = true by simp] at hv
      cases hv; exact e
    · rw [show Nat.beq t u = false by cases hb : Nat.beq t u with
        | false => rfl
        | true => exact absurd (Nat.eq_of_beq_eq_true hb) c] at hv
      exact s.env u v hv
  cases x with
  | true => exact h1 rfl hj a w Hs ⟨s.ds, s.size, up true rfl, s.mem, s.os, s.out⟩ hHs
  | false => exact h2 rfl hj a w Hs ⟨s.ds, s.size, up false rfl, s.mem, s.os, s.out⟩ hHs
theorem pureOp_plain {ob : Prop} {v : SV} (hr : pureOp P env o.op = some (ob, v)) : plainOp o.op = true := by
  unfold pureOp at hr; unfold plainOp
  split
  · rename_i c e; rw [e] at hr; simp at hr
  · rename_i c b e; rw [e] at hr; simp at hr
  · rfl
theorem sxo_pure {ob : Prop} {v : SV} (hg : guardE rg.ops o env = some true) (hr : pureOp P env o.op = some (ob, v)) (hd : dstOk N o.dst = true) (hob : ob)
    (h : SXo cx K ds rg H R k (setE env o.dst v) mem) (hH : ∀ x ∈ H, rg.fr P x.idx i = true → x.chk mem := by repeat (first | exact hh_nil | refine hh_free rfl ?_ | refine hh_chk ⟨_, _, _, (by first | exact .head | exact .tail .head | exact .tail (.tail .head) | exact .tail (.tail (.tail .head)) | exact .tail (.tail (.tail (.tail .head)))), (by rfl)⟩ ?_ | refine hh_chk trivial ?_)) : SXo cx K ds rg H ((i, o) :: R) k env mem :=
  sxo_val (pu := True) (chk := fun _ => False) hg (pureOp_plain hr) hd (fun _ w s => pureOp_run hr hob s.env w) (.pure trivial) (fun _ a he w => pureOp_run hr hob he w) (fun _ h => h.elim) hH h

/-! ### Loads and stores -/
theorem run_load_part {T T0 : TypeId} {ti : TInf} (hT : TOk P T ti) {b off : Nat} {cs : List Ch} {v : SV1} (hv : partV ti cs off = some v) {w : World} {fz : Nat × Nat} {X : Array Value}
    (hX : ∀ (j : Nat) (u : Value), (flat cs)[j]? = some u → X[j]? = some u) (hb : vw w b = some (.cells X T0 fz)) : (Instr.loadAt T (.pointer (some ⟨b, off, none⟩))).run P w = .ok v.val w := by
  have hc : ∀ (j : Nat) (u : Value), (flat cs)[j]? = some u → w.cell? ⟨b, j, none⟩ = some u := by
    intro j u hu
    unfold vw at hb
    simp [World.cell?, hb, hX j u hu]
  unfold partV at hv
  split at hv
  · rename_i r hr
    obtain ⟨p, rfl, hp⟩ := dropCh_spec hr
    have hy : (flat p).length = off := by rw [flat_length, hp]
    split at hv
    · rename_i ha
      split at hv
      · rename_i q hq
        cases hv
        obtain ⟨q', rfl, hw⟩ := takeCh_spec hq
        have hz : (flat q).length = ti.size := by rw [flat_length, hw]
        have := run_loadCells_list (P := P) w ⟨b, off, none⟩ (flat q) (fun j u hu => by
          rw [Addr.add_plain]
          refine hc _ _ ?_
          rw [flat_append, flat_append, List.getElem?_append_right (by omega), hy, Nat.add_sub_cancel_left, List.getElem?_append_left (List.getElem?_eq_some_iff.1 hu).1]
          exact hu)
        rw [hz] at this
        simp [Instr.loadAt, Instr.sureAddr, loadVar, hT.isAgg, ha, hT.size, this, agv]
      · cases hv
    · rename_i ha
      split at hv
      · rename_i u r'
        cases hv
        have := hc off u (by rw [flat_append, List.getElem?_append_right (by omega), hy]; simp [flat, Ch.vals])
        simp [Instr.loadAt, Instr.sureAddr, loadVar, hT.isAgg, ha, this]
      · cases hv
  · cases hv
theorem sxo_load {T T0 : TypeId} {x : Operand} {b off : Nat} {cs : List Ch} {r : List Ent} {ti : TInf} {v : SV1} (ho : o.op = .load T x) (hg : guardE rg.ops o env = some true)
    (hx : ev env x = some (.s (.o (.pointer (some ⟨b, off, none⟩))))) (hb : Pick mem (.blk b T0 cs) r) (ht : Tab.ti P T = some ti) (hv : partV ti cs off = some v) (hd : dstOk N o.dst = true)
    (hs : rg.flo.any (fun x => Nat.beq x.1 i) = false)
    (h : SXo cx K ds rg H R k (setE env o.dst (.s v)) mem) (hH : ∀ x ∈ H, rg.fr P x.idx i = true → x.chk mem := by repeat (first | exact hh_nil | refine hh_free rfl ?_ | refine hh_chk ⟨_, _, _, (by first | exact .head | exact .tail .head | exact .tail (.tail .head) | exact .tail (.tail (.tail .head)) | exact .tail (.tail (.tail (.tail .head)))), (by rfl)⟩ ?_ | refine hh_chk trivial ?_)) : SXo cx K ds rg H ((i, o) :: R) k env mem :=
  sxo_val (pu := False) (chk := fun _ => False) hg (by rw [ho]; rfl) hd (fun a w s => by
    have := run_load_part (Tab.ok T ti ht) hv (X := (flat cs).toArray) (fun j u hu => by simpa using hu) (MSat.pick hb s.mem).blk
    simp [execOp, ho, s.env.eval hx, this]) (.still (by rw [ho]; rfl) hs) (fun h => h.elim) (fun _ h => h.elim) hH h
/-- A load that may come later: its cell must still be so then. -/
theorem sxo_loadF {T T0 : TypeId} {x : Operand} {b off : Nat} {cs : List Ch} {r : List Ent} {ti : TInf} {v : SV1} (ho : o.op = .load T x) (hg : guardE rg.ops o env = some true)
    (hx : ev env x = some (.s (.o (.pointer (some ⟨b, off, none⟩))))) (hb : Pick mem (.blk b T0 cs) r) (ht : Tab.ti P T = some ti) (hv : partV ti cs off = some v) (hd : dstOk N o.dst = true)
    (h : SXo cx K ds rg (⟨i, fun m => ∃ T1 cs1 r1, Pick m (.blk b T1 cs1) r1 ∧ partV ti cs1 off = some v⟩ :: H) R k (setE env o.dst (.s v)) mem) (hH : ∀ x ∈ H, rg.fr P x.idx i = true → x.chk mem := by repeat (first | exact hh_nil | refine hh_free rfl ?_ | refine hh_chk ⟨_, _, _, (by first | exact .head | exact .tail .head | exact .tail (.tail .head) | exact .tail (.tail (.tail .head)) | exact .tail (.tail (.tail (.tail .head)))), (by rfl)⟩ ?_ | refine hh_chk trivial ?_)) :
    SXo cx K ds rg H ((i, o) :: R) k env mem :=
  sxo_val (pu := False) (chk := fun m => ∃ T1 cs1 r1, Pick m (.blk b T1 cs1) r1 ∧ partV ti cs1 off = some v) hg (by rw [ho]; rfl) hd (fun a w s => by
    have := run_load_part (Tab.ok T ti ht) hv (X := (flat cs).toArray) (fun j u hu => by simpa using hu) (MSat.pick hb s.mem).blk
    simp [execOp, ho, s.env.eval hx, this]) .keep (fun h => h.elim) (fun m ⟨T1, cs1, r1, h1, h2⟩ a he w hm => by
    have := run_load_part (Tab.ok T ti ht) h2 (X := (flat cs1).toArray) (fun j u hu => by simpa using hu) (MSat.pick h1 hm).blk
    simp [execOp, ho, he.eval hx, this]) hH h
theorem sxo_loadK {T T0 : TypeId} {x : Operand} {b off : Nat} {cs : List Ch} {ti : TInf} {v : SV1} {fz : Nat × Nat} (ho : o.op = .load T x) (hg : guardE rg.ops o env = some true)
    (hx : ev env x = some (.s (.o (.pointer (some ⟨b, off, none⟩))))) (hb : K b = some (.cells (flat cs).toArray T0 fz)) (ht : Tab.ti P T = some ti) (hv : partV ti cs off = some v) (hd : dstOk N o.dst = true)
    (h : SXo cx K ds rg (⟨i, fun _ => True⟩ :: H) R k (setE env o.dst (.s v)) mem) (hH : ∀ x ∈ H, rg.fr P x.idx i = true → x.chk mem := by repeat (first | exact hh_nil | refine hh_free rfl ?_ | refine hh_chk ⟨_, _, _, (by first | exact .head | exact .tail .head | exact .tail (.tail .head) | exact .tail (.tail (.tail .head)) | exact .tail (.tail (.tail (.tail .head)))), (by rfl)⟩ ?_ | refine hh_chk trivial ?_)) : SXo cx K ds rg H ((i, o) :: R) k env mem :=
  have key : ∀ a, ESat env a → ∀ m w, MSat K m (vw w) → (execOp a.eval o).run P w = .ok (.value v.val) w := fun a he m w hm => by
    obtain ⟨_, _, sK, _, _⟩ := hm
    have := run_load_part (Tab.ok T ti ht) hv (X := (flat cs).toArray) (fun j u hu => by simpa using hu) (sK _ _ hb)
    simp [execOp, ho, he.eval hx, this]
  sxo_val (v := .s v) (pu := False) (chk := fun _ => True) hg (by rw [ho]; rfl) hd (fun a w s => key a s.env _ w s.mem) .keep (fun h => h.elim) (fun m _ a he w hm => key a he m w hm) hH h
/-- Is each cell's value one of a cell? -/
def oneCh : List Ch → Bool
  | [] => true
  | .c v :: r => match v with
    | .agg _ | .tuple _ => false
    | _ => oneCh r
  | .d _ :: r => oneCh r
theorem oneCh_spec : ∀ {q : List Ch}, oneCh q = true → ∀ v ∈ flat q, v.oneCell' = true
  | [], _, v, hv => by simp [flat] at hv
  | .c u :: r, h, v, hv => by
    have h' : u.oneCell' = true ∧ oneCh r = true := by
      cases u <;> simp [oneCh] at h <;> exact ⟨rfl, h⟩
    simp only [flat, Ch.vals, List.singleton_append, List.mem_cons] at hv
    rcases hv with rfl | hv
    · exact h'.1
    · exact oneCh_spec h'.2 v hv
  | .d D :: r, h, v, hv => by
    simp only [flat, Ch.vals, List.mem_append] at hv
    rcases hv with hv | hv
    · simp only [Dig.vals, List.mem_map] at hv; obtain ⟨x, _, rfl⟩ := hv; rfl
    · exact oneCh_spec (by simpa [oneCh] using h) v hv
theorem val_cells (v : SV1) (h : oneCh v.ch = true) : v.val.cells = (flat v.ch).toArray := by
  cases v with
  | o v => cases v <;> simp [SV1.ch, oneCh] at h <;> rfl
  | g q => simp [SV1.val, agv, Value.cells, SV1.ch]
theorem run_store_part {T T0 : TypeId} {ti : TInf} (hT : TOk P T ti) {b off : Nat} {cs cs' : List Ch} {v : SV1} (hv : putCh cs off ti.size v.ch = some cs') (h1 : oneCh v.ch = true) {w : World}
    (hb : vw w b = some (.cells (flat cs).toArray T0 (0, 0))) : (Instr.storeAt T (.pointer (some ⟨b, off, none⟩)) v.val).run P w = .ok () (w.setRow b (flat cs').toArray) := by
  obtain ⟨p, m, s, rfl, rfl, hp, hm, hq⟩ := putCh_spec hv
  have hy : (flat p).length = off := by rw [flat_length, hp]
  have hz : (flat m).length = ti.size := by rw [flat_length, hm]
  have hu : (flat v.ch).length = ti.size := by rw [flat_length, hq]
  have := run_storeCells_at (P := P) b off T0 (flat v.ch) 0 (flat (p ++ (m ++ s))).toArray w hb (by simp [flat_append]; omega) (oneCh_spec h1)
  simp only [Instr.storeAt, Instr.sureAddr, storeVar, Sem.run_bind, Sem.run_pure, Result.andThen_ok, hT.size, val_cells v h1]
  simp only [List.size_toArray, hu, ne_eq, not_true_eq_false, if_false, Sem.run_bind, Sem.run_pure, Result.andThen_ok, this]
  congr 2
  simp only [flat_append, Nat.add_zero, hu]
  simp [List.take_append_of_le_length, hy]
  rw [List.drop_append, List.drop_eq_nil_of_le (by omega), List.drop_append, List.drop_eq_nil_of_le (by omega)]
  simp [hy, hz]
theorem sxo_store {T T0 : TypeId} {x y : Operand} {b off : Nat} {cs cs' : List Ch} {r : List Ent} {ti : TInf} {v : SV1} (ho : o.op = .store T x y) (hg : guardE rg.ops o env = some true)
    (hx : ev env x = some (.s (.o (.pointer (some ⟨b, off, none⟩))))) (hy : ev env y = some (.s v)) (hb : Pick mem (.blk b T0 cs) r) (ht : Tab.ti P T = some ti)
    (hv : putCh cs off ti.size v.ch = some cs') (h1 : oneCh v.ch = true) (hd : dstOk N o.dst = true) (hl : rg.lt P i = false)
    (h : SXo cx K ds rg H R k (setE env o.dst (.s (.o undef))) (.blk b T0 cs' :: r)) (hH : ∀ x ∈ H, rg.fr P x.idx i = true → x.chk (.blk b T0 cs' :: r) := by repeat (first | exact hh_nil | refine hh_free rfl ?_ | refine hh_chk ⟨_, _, _, (by first | exact .head | exact .tail .head | exact .tail (.tail .head) | exact .tail (.tail (.tail .head)) | exact .tail (.tail (.tail (.tail .head)))), (by rfl)⟩ ?_ | refine hh_chk trivial ?_)) : SXo cx K ds rg H ((i, o) :: R) k env mem :=
  sxo_act hl hg (by rw [ho]; rfl) fun a w s => by
    have hm := MSat.pick hb s.mem
    have := run_store_part (Tab.ok T ti ht) hv h1 hm.blk
    have hrun : (execOp a.eval o).run P w = .ok .skip (w.setRow b (flat cs').toArray) := by simp [execOp, ho, s.env.eval hx, s.env.eval hy, this]
    unfold OW
    rw [hrun]
    refine ⟨_, _, _, ⟨by rw [Act.put_def]; exact s.ds, by rw [Act.put_size]; exact s.size, s.env.put s.size hd (.s (.o undef)), ?_, s.os, s.out⟩, hH, h⟩
    rw [vw_setRow hm.blk]
    exact hm.turn (fun h1 he => by simp only [Ent.den] at he; simp [he]) (fun h1 _ he => by simp [Ent.den, put_self])

/-! ### New memory -/
theorem sxo_new {ob : Obj} {ent : Nat → Ent} {val : Nat → SV} (hg : guardE rg.ops o env = some true) (hp : plainOp o.op = true) (hd : dstOk N o.dst = true) (hl : rg.lt P i = false)
    (hr : ∀ a w, St cx K ds env mem a w → (execOp a.eval o).run P w = .ok (.value (val w.heap.size).val) { w with heap := w.heap.push ob })
    (he : ∀ b, (ent b).den (one b ob)) (h : ∀ b, SXo cx K ds rg H R k (setE env o.dst (val b)) (ent b :: mem)) (hH : ∀ b, ∀ x ∈ H, rg.fr P x.idx i = true → x.chk (ent b :: mem)) : SXo cx K ds rg H ((i, o) :: R) k env mem :=
  sxo_act hl hg hp fun a w s => by
    unfold OW
    rw [hr a w s]
    refine ⟨_, _, _, ⟨by rw [Act.put_def]; exact s.ds, by rw [Act.put_size]; exact s.size, s.env.put s.size hd (val w.heap.size), ?_, s.os, s.out⟩, hH _, h w.heap.size⟩
    rw [vw_push]
    exact s.mem.new (vw_size w) (he _)
theorem zero_run {T : TypeId} {ti : TInf} (ht : TOk P T ti) (hz : ti.zero ≠ []) : ∃ z, (∀ w, (zeroValue T).run P w = .ok z w) ∧ z.cells = (flat ti.zero).toArray := by
  obtain ⟨x, hx, _, _, h⟩ := ht.info
  obtain ⟨z, h1, h2, _⟩ := h hz
  exact ⟨z, fun w => by simp [zeroValue, typeInfo, hx, h1], h2⟩
theorem sxo_alloc {T : TypeId} {ti : TInf} {x : Ch} {zs : List Ch} (ho : o.op = .alloc T) (hg : guardE rg.ops o env = some true) (ht : Tab.ti P T = some ti) (hz : ti.zero = x :: zs) (hd : dstOk N o.dst = true) (hl : rg.lt P i = false)
    (h : ∀ b, SXo cx K ds rg H R k (setE env o.dst (.s (.o (.pointer (some ⟨b, 0, none⟩))))) (.blk b T (x :: zs) :: mem)) (hH : ∀ b, ∀ y ∈ H, rg.fr P y.idx i = true → y.chk (.blk b T (x :: zs) :: mem) := by intro _; repeat (first | exact hh_nil | refine hh_free rfl ?_ | refine hh_chk ⟨_, _, _, (by first | exact .head | exact .tail .head | exact .tail (.tail .head) | exact .tail (.tail (.tail .head)) | exact .tail (.tail (.tail (.tail .head)))), (by rfl)⟩ ?_ | refine hh_chk trivial ?_)) : SXo cx K ds rg H ((i, o) :: R) k env mem := by
  obtain ⟨z, hz1, hz2⟩ := zero_run (Tab.ok T ti ht) (by rw [hz]; simp)
  refine sxo_new (ob := .cells (flat ti.zero).toArray T (0, 0)) (ent := fun b => .blk b T (x :: zs)) (val := fun b => .s (.o (.pointer (some ⟨b, 0, none⟩)))) hg (by rw [ho]; rfl) hd hl (fun a w s => ?_) (fun b => ?_) h hH
  · simp [execOp, ho, Instr.alloc, hz1, newVar, newRow, hz2]
  · simp [Ent.den, one_self, hz]
theorem sxo_box {T : TypeId} {x : Operand} {v : SV1} (ho : o.op = .box T x) (hg : guardE rg.ops o env = some true) (hx : ev env x = some (.s v)) (h1 : oneCh v.ch = true) (hd : dstOk N o.dst = true) (hl : rg.lt P i = false)
    (h : ∀ b, SXo cx K ds rg H R k (setE env o.dst (.s (.o (.pointer (some ⟨b, 0, none⟩))))) (.blk b T v.ch :: mem)) (hH : ∀ b, ∀ y ∈ H, rg.fr P y.idx i = true → y.chk (.blk b T v.ch :: mem) := by intro _; repeat (first | exact hh_nil | refine hh_free rfl ?_ | refine hh_chk ⟨_, _, _, (by first | exact .head | exact .tail .head | exact .tail (.tail .head) | exact .tail (.tail (.tail .head)) | exact .tail (.tail (.tail (.tail .head)))), (by rfl)⟩ ?_ | refine hh_chk trivial ?_)) : SXo cx K ds rg H ((i, o) :: R) k env mem := by
  refine sxo_new (ob := .cells (flat v.ch).toArray T (0, 0)) (ent := fun b => .blk b T v.ch) (val := fun b => .s (.o (.pointer (some ⟨b, 0, none⟩)))) hg (by rw [ho]; rfl) hd hl (fun a w s => ?_) (fun b => ?_) h hH
  · simp [execOp, ho, Instr.box, s.env.eval hx, newVar, newRow, val_cells v h1]
  · simp [Ent.den, one_self]
end
end Go.SX

namespace Go.SX

/-- A function that can be entered. -/
def Callable (P : Program) (f : FuncId) : Prop := ∃ fn, P.funcs[f]? = some fn ∧ fn.body.isSome = true ∧ (fn.name == "runtime.NumGoroutine") = false
/-- A CONTRACT: called with these values, in whatever world in which the entries hold (K beside them), it returns, as Q says of the value and of what memory then holds; K is as it was. -/
structure TR (P : Program) (K : Hp) (f : FuncId) (args : List SV1) (mem : List Ent) (Q : SV → List Ent → Prop) : Prop where
  can : Callable P f
  run : ∀ w, MSat K mem (vw w) → Calls P f (args.map SV1.val).toArray w fun e w' => ∃ v m, e = .returned v.val ∧ Q v m ∧ MSat K m (vw w') ∧ w'.os = w.os ∧ w'.output = w.output
theorem TR.mono {P : Program} {K : Hp} {f : FuncId} {args : List SV1} {mem : List Ent} {Q Q' : SV → List Ent → Prop} (h : TR P K f args mem Q) (hq : ∀ v m, Q v m → Q' v m) : TR P K f args mem Q' :=
  ⟨h.can, fun w s => (h.run w s).mono fun _ _ ⟨v, m, e, q, r⟩ => ⟨v, m, e, hq v m q, r⟩⟩

/-- What the result variables hold. -/
inductive ResOk (P : Program) [Tab P] (env : Env) (mem : List Ent) : List ResultVar → List SV1 → Prop where
  | nil : ResOk P env mem [] []
  | tmp {t : Nat} {v : SV1} {rs : List ResultVar} {vs : List SV1} (h : look env t = some (.s v)) (r : ResOk P env mem rs vs) : ResOk P env mem (.tmp t :: rs) (v :: vs)
  | cell {t : Nat} {T T0 : TypeId} {b off : Nat} {cs : List Ch} {m : List Ent} {ti : TInf} {v : SV1} {rs : List ResultVar} {vs : List SV1} (h : look env t = some (.s (.o (.pointer (some ⟨b, off, none⟩)))))
      (hb : Pick mem (.blk b T0 cs) m) (ht : Tab.ti P T = some ti) (hv : partV ti cs off = some v) (r : ResOk P env mem rs vs) : ResOk P env mem (.cell t T :: rs) (v :: vs)
def resV : List SV1 → SV
  | [v] => .s v
  | l => .t l
theorem bool_f {p : Prop} [Decidable p] (h : ¬ p) : SV.s (.o (.bool false)) = .s (.o (.bool (decide p))) := by simp [h]
theorem bool_t {p : Prop} [Decidable p] (h : p) : SV.s (.o (.bool true)) = .s (.o (.bool (decide p))) := by simp [h]
theorem bool_d {p q : Prop} [Decidable p] [Decidable q] (h : p ↔ q) : SV.s (.o (.bool (decide p))) = .s (.o (.bool (decide q))) := by simp [h]
section
variable {P : Program} [Tab P]
def resOne (tmps : Array Value) : ResultVar → Sem Value
  | .tmp t => pure (tmps.getD t undef)
  | .cell x t => do loadVar t (← asAddr (tmps.getD x undef))
theorem results_eq (fn : Func) (tmps : Array Value) {rs : List ResultVar} (hf : fn.results = rs.toArray) (w : World) {l : List Value} (h : (rs.mapM (resOne tmps)).run P w = .ok l w) :
    (results fn tmps).run P w = .ok (match l with | [v] => v | l => .tuple l.toArray) w := by
  have e : results fn tmps = (do let vs ← fn.results.mapM (resOne tmps); pure (if h : vs.size = 1 then vs[0] else .tuple vs)) := by
    unfold results
    congr 1
    try (congr 1; funext x; cases x <;> rfl)
  rw [e, hf]
  simp only [List.mapM_toArray, Sem.run_bind, Sem.run_map, h, Result.andThen_ok]
  cases l with
  | nil => simp
  | cons v l => cases l <;> simp
theorem ResOk.run {env : Env} {mem : List Ent} {K : Hp} {rs : List ResultVar} {vs : List SV1} (h : ResOk P env mem rs vs) {fn : Func} (hf : fn.results = rs.toArray) {a : Act} {w : World} (he : ESat env a)
    (hm : MSat K mem (vw w)) : (results fn a.tmps).run P w = .ok (resV vs).val w := by
  have key : ∀ {rs : List ResultVar} {vs : List SV1}, ResOk P env mem rs vs → (rs.mapM (resOne a.tmps)).run P w = .ok (vs.map SV1.val) w := by
    intro rs vs h
    induction h with
    | nil => simp
    | tmp h _ ih =>
      have e := he _ _ h
      rw [List.mapM_cons]
      simp only [Sem.run_bind, ih]
      simp [resOne, Array.getD_eq_getD_getElem?, e, ih]
    | cell h hb ht hv _ ih =>
      have e := he _ _ h
      have := run_load_part (Tab.ok _ _ ht) hv (fun j u hu => by simpa using hu) (MSat.pick hb hm).blk
      simp only [Instr.loadAt, Instr.sureAddr, Sem.run_bind, Sem.run_pure, Result.andThen_ok] at this
      rw [List.mapM_cons]
      simp only [Sem.run_bind, ih]
      simp [resOne, Array.getD_eq_getD_getElem?, e, asAddr, this, ih]
  rw [results_eq fn a.tmps hf w (key h)]
  cases vs with
  | nil => rfl
  | cons v vs => cases vs <;> rfl

/-- The machine's way out of a call: what the walk's end must show. -/
def Ret {N : Nat} (cx : Cx P N) (fn : Func) (K : Hp) (Q : SV → List Ent → Prop) : Prop :=
  ∀ (fr : Frame) (w : World) (v : SV) (m : List Ent), fr.mode = .returning → fr.defers = [] → fr.kind = .normal → fr.fn = cx.b.fn → (results fn fr.tmps).run P w = .ok v.val w →
    Q v m → MSat K m (vw w) → w.os = cx.os → w.output = cx.out → cx.T (lone fr cx.cs w)
/-- The arguments lie in the first temporaries. -/
def argE : Nat → List SV1 → Env
  | _, [] => []
  | i, v :: r => (i, .s v) :: argE (i + 1) r
theorem argE_look : ∀ (l : List SV1) (i t : Nat) (v : SV), look (argE i l) t = some v → i ≤ t ∧ ∃ u, l[t - i]? = some u ∧ v = .s u
  | [], i, t, v, h => by simp [argE, look] at h
  | x :: r, i, t, v, h => by
    simp only [argE, look] at h
    by_cases c : i = t
    · subst c
      rw [show Nat.beq i i = true by simp] at h
      cases h
      exact ⟨Nat.le_refl _, x, by simp, rfl⟩
    · rw [show Nat.beq i t = false by cases hb : Nat.beq i t with
        | false => rfl
        | true => exact absurd (Nat.eq_of_beq_eq_true hb) c] at h
      obtain ⟨h1, u, h2, h3⟩ := argE_look r (i + 1) t v h
      refine ⟨by omega, u, ?_, h3⟩
      rw [show t - i = (t - (i + 1)) + 1 by omega]
      simpa using h2
/-- **A CONTRACT, OUT OF THE BODY's WALK.** -/
theorem tr_intro {K : Hp} {f : FuncId} {fn : Func} {c : Code} {args : List SV1} {mem : List Ent} {Q : SV → List Ent → Prop} (hf : P.funcs[f]? = some fn) (hb : fn.body = some c)
    (hn : (fn.name == "runtime.NumGoroutine") = false) (hsz : Nat.ble args.length fn.ntmps = true)
    (h : ∀ cx : Cx P fn.ntmps, cx.b.roundOf = none → cx.b.kind = .normal → Ret cx fn K Q → SX cx K [] [.code c] (argE 0 args) mem) : TR P K f args mem Q := by
  refine ⟨⟨fn, hf, by simp [hb], hn⟩, fun w s cs => ?_⟩
  have hle : args.length ≤ fn.ntmps := Nat.le_of_ble_eq_true hsz
  let b : Frame := { (default : Frame) with fn := f, kind := .normal, roundOf := none }
  let T : Machine → Prop := fun m => ∃ e w' fr, (∃ v m, e = .returned v.val ∧ Q v m ∧ MSat K m (vw w') ∧ w'.os = w.os ∧ w'.output = w.output) ∧ Comes P m (lone fr cs w') e ∧ fr.fn = f ∧ fr.leaving P w' e
  let cx : Cx P fn.ntmps := { T := T, back := fun m m' hs ⟨e, w', fr, h1, h2, h3⟩ => ⟨e, w', fr, h1, Comes.of_steps hs h2, h3⟩, b := b, cs := cs, os := w.os, out := w.output }
  have hret : Ret cx fn K Q := by
    intro fr w' v m h1 h2 h3 h4 h5 h6 h7 h8 h9
    exact ⟨.returned v.val, w', fr, ⟨v, m, rfl, h6, h7, h8, h9⟩, Steps.refl _ _, h4, h1, h2, h3, fn, h4 ▸ hf, h5⟩
  have henter : Frame.enter P f (args.map SV1.val).toArray .normal =
      b.atR { tmps := (args.map SV1.val).toArray ++ Array.replicate (fn.ntmps - (args.map SV1.val).toArray.size) undef, defers := [] } [.code c] := by
    simp [Frame.enter, Frame.atR, hf, hb, b]
  rw [henter]
  refine h cx rfl rfl hret _ w ⟨rfl, by simp only [Array.size_append, List.size_toArray, List.length_map, Array.size_replicate]; show _ = fn.ntmps; omega, fun t v ht => ?_, s, rfl, rfl⟩
  obtain ⟨_, u, hu, rfl⟩ := argE_look args 0 t v ht
  simp only [Nat.sub_zero] at hu
  have hlt := (List.getElem?_eq_some_iff.1 hu).1
  rw [Array.getElem?_append_left (by simp; omega)]
  simp [hu]
variable {N : Nat} {cx : Cx P N} {K : Hp} {k : List Item} {env : Env} {mem : List Ent}
theorem sx_ret_any {fn : Func} {Q : SV → List Ent → Prop} {vs : List SV1} (hR : Ret cx fn K Q) (hr : ResOk P env mem fn.results.toList vs) (hQ : Q (resV vs) mem)
    {a : Act} {w : World} (s : St cx K [] env mem a w) (todo : List Item) (hk : cx.b.kind = .normal) : cx.T (lone { cx.b.atR a todo with mode := .returning } cx.cs w) :=
  hR _ w (resV vs) mem rfl s.ds hk rfl (hr.run (by simp) s.env s.mem) hQ s.mem s.os s.out
theorem sx_ret {fn : Func} {Q : SV → List Ent → Prop} {vs : List SV1} (hR : Ret cx fn K Q) (hro : cx.b.roundOf = none) (hk : cx.b.kind = .normal)
    (hr : ResOk P env mem fn.results.toList vs) (hQ : Q (resV vs) mem) : SX cx K [] (.code .ret :: k) env mem := fun a w s =>
  cx.step (stepR_ret hro) (sx_ret_any hR hr hQ s _ hk)
theorem sx_end {fn : Func} {Q : SV → List Ent → Prop} {vs : List SV1} (hR : Ret cx fn K Q) (hro : cx.b.roundOf = none) (hk : cx.b.kind = .normal)
    (hr : ResOk P env mem fn.results.toList vs) (hQ : Q (resV vs) mem) : SX cx K [] [] env mem := fun a w s =>
  cx.step (stepR_end hro) (sx_ret_any hR hr hQ s _ hk)
/-- Q may be asked of fewer entries. -/
def Less (Q : SV → List Ent → Prop) (v : SV) (mem : List Ent) : Prop := ∃ M r, Take mem M r ∧ Q v M

/-- The way out, some entries let go. -/
theorem sx_retL {fn : Func} {Q : SV → List Ent → Prop} {vs : List SV1} {M r : List Ent} (hR : Ret cx fn K Q) (hro : cx.b.roundOf = none) (hk : cx.b.kind = .normal)
    (hr : ResOk P env mem fn.results.toList vs) (hQ : Q (resV vs) M) (ht : Take mem M r) : SX cx K [] (.code .ret :: k) env mem := fun a w s => by
  obtain ⟨h0, d, s1, s2, o⟩ := s.mem
  obtain ⟨k1, _, _, t1, _, hM, _⟩ := OSat.take ht o
  exact cx.step (stepR_ret hro) (hR _ w (resV vs) M rfl s.ds hk rfl (hr.run (by simp) s.env s.mem) hQ ⟨k1, d.mono (Sub.refl _) t1, s1, t1.trans s2, hM⟩ s.os s.out)
theorem sx_endL {fn : Func} {Q : SV → List Ent → Prop} {vs : List SV1} {M r : List Ent} (hR : Ret cx fn K Q) (hro : cx.b.roundOf = none) (hk : cx.b.kind = .normal)
    (hr : ResOk P env mem fn.results.toList vs) (hQ : Q (resV vs) M) (ht : Take mem M r) : SX cx K [] [] env mem := fun a w s => by
  obtain ⟨h0, d, s1, s2, o⟩ := s.mem
  obtain ⟨k1, _, _, t1, _, hM, _⟩ := OSat.take ht o
  exact cx.step (stepR_end hro) (hR _ w (resV vs) M rfl s.ds hk rfl (hr.run (by simp) s.env s.mem) hQ ⟨k1, d.mono (Sub.refl _) t1, s1, t1.trans s2, hM⟩ s.os s.out)
variable {ds : List Deferred} {rg : Rg} {H : List HE} {R : List (Nat × Oper)} {i : Nat} {o : Oper}
/-- What the entries that a call leaves alone say of the heap that it must keep. -/
def Beside (r : List Ent) (Kc : Hp) : Prop := ∃ h, Sub h Kc ∧ OSat r h

theorem sxo_call {cal : Operand} {as1 : Array Operand} {ts : Array TypeId} {f : FuncId} {fs cs : Array Value} {vs : List SV1} {M r : List Ent} {Q : SV → List Ent → Prop} (args : List SV1)
    (ho : o.op = .call { callee := .value cal, args := as1, argTypes := ts }) (hg : guardE rg.ops o env = some true) (hc : ev env cal = some (.s (.o (.func (.func f) fs cs)))) (ha : evs env as1.toList = some vs)
    (hargs : fs.toList ++ vs.map SV1.val ++ cs.toList = args.map SV1.val) (hM : Take mem M r) (hd : dstOk N o.dst = true) (hl : rg.lt P i = false)
    (ht : ∀ Kc, Sub K Kc → Beside r Kc → TR P Kc f args M Q)
    (h : ∀ v m, Q v m → SXo cx K ds rg H R k (setE env o.dst v) (m ++ r)) (hH : ∀ v m, Q v m → ∀ x ∈ H, rg.fr P x.idx i = true → x.chk (m ++ r) := by intro _ _ _; repeat (first | exact hh_nil | refine hh_free rfl ?_ | refine hh_chk ⟨_, _, _, (by first | exact .head | exact .tail .head | exact .tail (.tail .head) | exact .tail (.tail (.tail .head)) | exact .tail (.tail (.tail (.tail .head)))), (by rfl)⟩ ?_ | refine hh_chk trivial ?_)) :
    SXo cx K ds rg H ((i, o) :: R) k env mem :=
  sxo_act hl hg (by rw [ho]; rfl) fun a w s => by
    obtain ⟨hh, d, s1, s2, os⟩ := s.mem
    obtain ⟨h1, h2, dd, t1, t2, hM1, hr1⟩ := OSat.take hM os
    have dK2 : Dj K h2 := d.mono (Sub.refl _) t2
    have hsub : Sub (un K h2) (vw w) := un_sub s1 (t2.trans s2)
    have hdj : Dj (un K h2) h1 := Dj.un_left (d.mono (Sub.refl _) t1) dd.symm
    have tr := ht (un K h2) (sub_un_left _ _) ⟨h2, sub_un_right dK2, hr1⟩
    obtain ⟨fn, hf, hbody, hname⟩ := tr.can
    have hcall := tr.run w ⟨h1, hdj, hsub, t1.trans s2, hM1⟩
    have eA : as1.map a.eval = (vs.map SV1.val).toArray := by apply Array.toList_inj.1; simp [s.env.evals ha]
    have eall : fs ++ (vs.map SV1.val).toArray ++ cs = (args.map SV1.val).toArray := by
      apply Array.toList_inj.1; simpa using hargs
    have hbn : ¬ fn.body = none := by
      intro hb; simp [hb] at hbody
    have hname' : ¬ fn.name = "runtime.NumGoroutine" := by simpa using hname
    have hrun : (execOp a.eval o).run P w = .ok (.enter f (args.map SV1.val).toArray) w := by
      simp [execOp, ho, resolve, s.env.eval hc, Deferred.ofValue, invoke, callFunc, hf, hname', hbn, eA, ← eall]
    unfold OW
    rw [hrun]
    refine hcall.mono ?_
    rintro e w'' ⟨v, m, rfl, hq, hm, ho1, ho2⟩
    obtain ⟨g, dg, sg, sg2, og⟩ := hm
    refine ⟨v.val, rfl, _, m ++ r, _, ⟨by rw [Act.put_def]; exact s.ds, by rw [Act.put_size]; exact s.size, s.env.put s.size hd v, ?_, ho1.trans s.os, ho2.trans s.out⟩, hH v m hq, h v m hq⟩
    have dKg : Dj K g := dg.mono (sub_un_left _ _) (Sub.refl _)
    have d2g : Dj h2 g := dg.mono (sub_un_right dK2) (Sub.refl _)
    exact ⟨un g h2, Dj.un_right dKg dK2, (sub_un_left _ _).trans sg, un_sub sg2 ((sub_un_right dK2).trans sg), OSat.append d2g.symm (sub_un_left _ _) (sub_un_right d2g.symm) og hr1⟩
/-- ... of a function that closes over nothing. -/
theorem sxo_call0 {cal : Operand} {as1 : Array Operand} {ts : Array TypeId} {f : FuncId} {args : List SV1} {M r : List Ent} {Q : SV → List Ent → Prop}
    (ho : o.op = .call { callee := .value cal, args := as1, argTypes := ts }) (hg : guardE rg.ops o env = some true) (hc : ev env cal = some (.s (.o (.func (.func f) #[] #[])))) (ha : evs env as1.toList = some args)
    (hM : Take mem M r) (ht : ∀ Kc, Sub K Kc → Beside r Kc → TR P Kc f args M Q) (hd : dstOk N o.dst = true) (hl : rg.lt P i = false)
    (h : ∀ v m, Q v m → SXo cx K ds rg H R k (setE env o.dst v) (m ++ r)) (hH : ∀ v m, Q v m → ∀ x ∈ H, rg.fr P x.idx i = true → x.chk (m ++ r) := by intro _ _ _; repeat (first | exact hh_nil | refine hh_free rfl ?_ | refine hh_chk ⟨_, _, _, (by first | exact .head | exact .tail .head | exact .tail (.tail .head) | exact .tail (.tail (.tail .head)) | exact .tail (.tail (.tail (.tail .head)))), (by rfl)⟩ ?_ | refine hh_chk trivial ?_)) :
    SXo cx K ds rg H ((i, o) :: R) k env mem := sxo_call args ho hg hc ha (by simp) hM hd hl ht h hH
end
end Go.SX

namespace Go.SX

def veq : Value → Value → Bool
  | .bool a, .bool b => a == b
  | .int j a, .int k b => kindEq j k && a == b
  | .string a, .string b => a.size == 0 && b.size == 0
  | .pointer none, .pointer none => true
  | .slice none 0 0, .slice none 0 0 => true
  | .map none, .map none => true
  | .nilFunc, .nilFunc => true
  | .nilIface, .nilIface => true
  | _, _ => false
theorem veq_eq {a b : Value} (h : veq a b = true) : a = b := by
  unfold veq at h
  split at h
  · simp at h; rw [h]
  · simp at h; rw [kindEq_eq h.1, h.2]
  · rename_i s t
    simp only [Bool.and_eq_true, beq_iff_eq] at h
    obtain ⟨h1, h2⟩ := h
    have e1 : s = ByteArray.empty := by
      apply ByteArray.ext; apply Array.eq_empty_of_size_eq_zero; exact h1
    have e2 : t = ByteArray.empty := by
      apply ByteArray.ext; apply Array.eq_empty_of_size_eq_zero; exact h2
    rw [e1, e2]
  all_goals first | rfl | simp at h
def veqs : List Value → List Value → Bool
  | [], [] => true
  | a :: x, b :: y => veq a b && veqs x y
  | _, _ => false
theorem veqs_eq : ∀ {a b : List Value}, veqs a b = true → a = b
  | [], [], _ => rfl
  | a :: x, b :: y, h => by simp only [veqs, Bool.and_eq_true] at h; rw [veq_eq h.1, veqs_eq h.2]
  | [], _ :: _, h => by simp [veqs] at h
  | _ :: _, [], h => by simp [veqs] at h
def feq : List (Nat × TypeId) → List (Nat × TypeId) → Bool
  | [], [] => true
  | (a, b) :: x, (c, d) :: y => Nat.beq a c && Nat.beq b d && feq x y
  | _, _ => false
theorem feq_eq : ∀ {a b : List (Nat × TypeId)}, feq a b = true → a = b
  | [], [], _ => rfl
  | (a, b) :: x, (c, d) :: y, h => by
    simp only [feq, Bool.and_eq_true] at h
    rw [Nat.eq_of_beq_eq_true h.1.1, Nat.eq_of_beq_eq_true h.1.2, feq_eq h.2]
  | [], _ :: _, h => by simp [feq] at h
  | _ :: _, [], h => by simp [feq] at h
def descOk : Option TypeDesc → TD → Bool
  | some (.struct ff), .struct fs => feq (ff.toList.map fun f => (f.offset, f.type)) fs
  | some (.array n e), .array m f => Nat.beq n m && Nat.beq e f
  | some (.struct _), _ | some (.array _ _), _ => false
  | some (.pointer e), .ptr f => Nat.beq e f
  | some (.slice e), .slice f => Nat.beq e f
  | some (.map a b), .map c d => Nat.beq a c && Nat.beq b d
  | some (.int k), .int j => kindEq k j
  | some .string, .str => true
  | some .bool, .bool => true
  | _, .int _ | _, .str | _, .bool => false
  | some _, .plain => true
  | some _, .other => true
  | _, _ => false
def rowOk (P : Program) (t : TypeId) (i : TInf) : Bool :=
  match P.info? t with
  | some x => Nat.beq x.size i.size && Nat.beq x.bytes i.bytes && descOk (P.underlying t) i.d &&
      (match i.zero with
       | [] => true
       | _ => match x.zero with
         | some z => veqs z.cells.toList (flat i.zero) && (match z with | .agg _ => i.agg | .tuple _ => false | _ => !i.agg)
         | none => false)
  | none => false
theorem rowOk_ok {P : Program} {t : TypeId} {i : TInf} (h : rowOk P t i = true) : TOk P t i := by
  unfold rowOk at h
  split at h
  · rename_i x hx
    simp only [Bool.and_eq_true] at h
    obtain ⟨⟨⟨h1, h2⟩, h3⟩, h4⟩ := h
    have e1 := Nat.eq_of_beq_eq_true h1
    have e2 := Nat.eq_of_beq_eq_true h2
    obtain ⟨d, hd⟩ : ∃ d, P.underlying t = some d := by
      cases hu : P.underlying t with
      | none => cases hi : i.d <;> simp [hu, hi, descOk] at h3
      | some d => exact ⟨d, rfl⟩
    rw [hd] at h3
    refine ⟨fun w => ?_, fun w => ?_, ⟨x, hx, e2, e1, fun hne => ?_⟩, ?_⟩
    · have hr : (underlying t).run P w = .ok d w := run_underlying hd w
      simp only [isAgg, Sem.run_bind, hr, Result.andThen_ok, TInf.agg]
      cases d <;> cases hi : i.d <;> simp [descOk, hi] at h3 ⊢
    · simp [sizeOf, typeInfo, hx, e1]
    · split at h4
      · rename_i e; exact absurd e hne
      · split at h4
        · rename_i z hz
          simp only [Bool.and_eq_true] at h4
          exact ⟨z, hz, by apply Array.toList_inj.1; rw [veqs_eq h4.1], by cases z <;> simp at h4 ⊢ <;> exact h4.2⟩
        · cases h4
    · rw [hd]
      cases d <;> cases hi : i.d <;> simp [descOk, hi] at h3 ⊢
      all_goals first
        | exact feq_eq h3
        | exact h3
        | exact ⟨Nat.eq_of_beq_eq_true h3.1, Nat.eq_of_beq_eq_true h3.2⟩
        | exact Nat.eq_of_beq_eq_true h3
        | exact kindEq_eq h3
  · cases h
/-- A table, as a tree. -/
inductive Tr where
  | leaf (k : Nat) (i : TInf)
  | node (k : Nat) (l r : Tr)
def Tr.get : Tr → Nat → Option TInf
  | .leaf k i, t => match Nat.beq k t with
    | true => some i
    | false => none
  | .node k l r, t => match Nat.blt t k with
    | true => l.get t
    | false => r.get t
def Tr.all (p : Nat → TInf → Bool) : Tr → Bool
  | .leaf k i => p k i
  | .node _ l r => l.all p && r.all p
theorem Tr.get_all {p : Nat → TInf → Bool} : ∀ {tr : Tr} {t : Nat} {i : TInf}, tr.all p = true → tr.get t = some i → p t i = true
  | .leaf k i, t, j, h, e => by
    simp only [Tr.get] at e
    split at e
    · rename_i hb; cases e; rw [← Nat.eq_of_beq_eq_true hb]; exact h
    · cases e
  | .node k l r, t, j, h, e => by
    simp only [Tr.all, Bool.and_eq_true] at h
    simp only [Tr.get] at e
    split at e
    · exact Tr.get_all h.1 e
    · exact Tr.get_all h.2 e
end Go.SX
