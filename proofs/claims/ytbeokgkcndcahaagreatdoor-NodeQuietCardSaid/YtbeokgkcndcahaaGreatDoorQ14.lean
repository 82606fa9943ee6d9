/-
  slices.IndexFunc and slices.ContainsFunc, with any closure that looks on.
  choke: who may ask.
  choke: sorting rates, Choose, Round, May.
-/
import Derived.Test.YtbeokgkcndcahaaGreatDoorQ12
import Derived.Test.YtbeokgkcndcahaaGreatDoorQ13
set_option linter.all false
namespace Go.SX
open Go.Proofs
attribute [local irreducible] SX SXo
structure Rate where
  id : Int
  bytes : Int
  wants : Bool
@[reducible] def encR (x : Rate) : List Ch := [.c (.int .i64 x.id), .c (.int .i64 x.bytes), .c (.bool x.wants)]
@[reducible] def evR (x : Rate) : SV1 := .g (encR x)
structure Blob where
  dig : Dig
  size : Int
  piece : Int
  root : Dig
@[reducible] def encBlob (x : Blob) : List Ch := [.d x.dig, .c (.int .i64 x.size), .c (.int .i64 x.piece), .d x.root]
@[reducible] def evBlob (x : Blob) : SV1 := .g (encBlob x)
/-- A late write: its file, where, its bytes' words. -/
structure Late where
  file : Option Nat
  at_ : Int
  b : Sl
@[reducible] def encLate (x : Late) : List Ch := [.c (.pointer (x.file.map fun b => ⟨b, 0, none⟩)), .c (.int .i64 x.at_), .c x.b.v]
@[reducible] def evLate (x : Late) : SV1 := .g (encLate x)
@[reducible] def encP (b : Nat) : List Ch := [.c (.pointer (some ⟨b, 0, none⟩))]
/-- What IndexFunc says. -/
def IsIdx {α : Type} (g : α → Bool) (l : List α) (n : Int) : Prop := (n = -1 ∧ ∀ x ∈ l, g x = false) ∨ (0 ≤ n ∧ n < l.length ∧ ∃ x, l[n.toNat]? = some x ∧ g x = true)
/-- A closure that looks on. -/
structure Looks (P : Program) (K : Hp) (Y : Value) {α : Type} (e : α → SV1) (l : List α) (mem : List Ent) (g : α → Bool) : Prop where
  run : ∀ Kc, Sub K Kc → ∀ x ∈ l, TRV P Kc Y [e x] mem fun v m => v = .s (.o (.bool (g x))) ∧ m = mem
theorem TRV.frame0 {P : Program} {K : Hp} {Y : Value} {args : List SV1} {mem : List Ent} {A : SV → Prop} (h : ∀ Kc, TRV P Kc Y args [] fun v m => A v ∧ m = []) : TRV P K Y args mem fun v m => A v ∧ m = mem := fun w hm => by
  obtain ⟨h0, d, s1, s2, o⟩ := hm
  refine (h (un K h0) w ⟨emp, fun b x y p q => by simp [emp] at q, un_sub s1 s2, sub_emp _, trivial⟩).mono ?_
  rintro u w' ⟨v, m, e, ⟨ha, rfl⟩, ⟨_, _, t1, _, _⟩, ho⟩
  exact ⟨v, mem, e, ⟨ha, rfl⟩, ⟨h0, d, (sub_un_left _ _).trans t1, (sub_un_right d).trans t1, o⟩, ho⟩
/-- A closure that looks on and needs no memory. -/
theorem Looks.of0 {P : Program} {K : Hp} {f : FuncId} {α : Type} {e : α → SV1} {l : List α} {mem : List Ent} {g : α → Bool} (h : ∀ Kc x, TR P Kc f [e x] [] fun v m => v = .s (.o (.bool (g x))) ∧ m = []) : Looks P K (.func (.func f) #[] #[]) e l mem g :=
  ⟨fun _ _ x _ => TRV.frame0 fun Kd => (h Kd x).val (by simp)⟩
theorem take_mid {M : List Ent} {e : Ent} : Take (M ++ [e]) M [e] := by
  induction M with
  | nil => exact .nil
  | cons x M ih => exact .cons .head ih
theorem IdxRate_ok (K : Hp) (mem : List Ent) (p : Option Addr) (n c : Nat) (l : List Rate) (Y : Value) (g : Rate → Bool) (hv : Reads K mem ⟨p, n, c⟩ 163 3 encR l) (hl : l.length < 4611686018427387904) (hY : Looks Tryz.prog K Y evR l mem g) : TR Tryz.prog K 343 [.o (.slice p n c), .o Y] mem
    fun u m => (∃ j : Int, u = .s (.o (.int .i64 j)) ∧ IsIdx g l j) ∧ m = mem := by
  refine tr_intro Tryz.func343 rfl rfl rfl fun cx hro hk hret => ?_
  refine sx_seq ?_
  refine sx_region ?_
  refine sxo_pure rfl rfl rfl trivial ?_
  refine sxo_end ?_
  refine sx_seq ?_
  refine sx_seq ?_
  refine sx_region ?_
  refine sxo_pure rfl rfl rfl trivial ?_
  refine sxo_len rfl rfl rfl rfl rfl (by assumption) rfl rfl ?_
  refine sxo_pure rfl rfl rfl trivial ?_
  refine sxo_end ?_
  refine sx_block ?_
  refine sx_less (by refine .cons rfl ?_; refine .cons rfl ?_; refine .cons rfl ?_; refine .cons rfl ?_; exact .nil _) .all (sx_loopI (γ := Nat) (fun j => j ≤ l.length ∧ ∀ (i : Nat) (x : Rate), i < j → l[i]? = some x → g x = false) (fun j => l.length - j) (fun j => [(0, .s (.o (.slice p n c))), (1, .s (.o Y)), (7, .s (.o (.int .i64 l.length))), (8, .s (.o (.int .i64 j)))]) (fun _ => mem) 0 ⟨by omega, fun i x h => by omega⟩ ?_)
  rintro j ⟨hj, ho⟩ ih
  refine sx_seq ?_
  refine sx_region ?_
  refine sxo_pure rfl rfl rfl trivial ?_
  refine sxo_end ?_
  refine sx_seq ?_
  refine sx_cond rfl (fun h => ?_) (fun h => ?_)
  · simp at h
    refine sx_skip ?_
    refine sx_seq ?_
    refine sx_block ?_
    refine sx_seq ?_
    refine sx_region ?_
    refine sxo_pure rfl rfl rfl trivial ?_
    refine sxo_pure rfl rfl rfl trivial ?_
    refine sxo_end ?_
    refine sx_seq ?_
    refine sx_region ?_
    refine sxo_pure rfl rfl rfl trivial ?_
    refine sxo_pure rfl rfl rfl trivial ?_
    refine sxo_pure rfl rfl rfl trivial ?_
    refine sxo_indexAddr rfl rfl rfl rfl rfl rfl rfl hv (by omega) rfl (fun _ _ => ?_)
    refine sxo_loadEl0 rfl rfl rfl .head hv.skip rfl (by omega) (fun _ => rfl) rfl rfl (fun x hx => ?_)
    simp at hx
    refine sxo_callV rfl rfl rfl rfl (.skip .all) rfl rfl (fun Kc hK _ => hY.run Kc hK x (List.mem_of_getElem? hx)) ?_
    rintro v m ⟨rfl, rfl⟩
    refine sxo_end ?_
    refine sx_cond rfl (fun h2 => ?_) (fun h2 => ?_)
    · refine sx_seq ?_
      refine sx_region ?_
      refine sxo_pure rfl rfl rfl trivial ?_
      refine sxo_pure rfl rfl rfl trivial ?_
      refine sxo_end ?_
      refine sx_less (M := m) (.cons (t := 4) rfl (.nil _)) (by first | exact .all | exact take_mid) ?_
      refine sx_ret hret hro hk (.tmp rfl .nil) ⟨⟨j, rfl, .inr ⟨by omega, by omega, x, by simpa using hx, h2⟩⟩, rfl⟩
    · refine sx_skip ?_
      refine sx_inBlock ?_
      refine sx_region ?_
      refine sxo_pure rfl rfl rfl (by omega) ?_
      refine sxo_pure rfl rfl rfl trivial ?_
      refine sxo_end ?_
      exact sx_less (by refine .cons rfl ?_; refine .cons rfl ?_; refine .cons rfl ?_; refine .cons rfl ?_; exact .nil _) (by first | exact .all | exact take_mid) (ih (j + 1) ⟨by omega, fun i y hi hy => by
        by_cases e : i = j
        · subst e; rw [hx] at hy; cases hy; exact h2
        · exact ho i y (by omega) hy⟩ (by omega))
  · simp at h
    refine sx_exit rfl ?_
    refine sx_seq ?_
    refine sx_region ?_
    refine sxo_pure rfl rfl rfl trivial ?_
    refine sxo_end ?_
    refine sx_ret hret hro hk (.tmp rfl .nil) ⟨⟨-1, rfl, .inl ⟨rfl, fun x hx => ?_⟩⟩, rfl⟩
    obtain ⟨i, hi⟩ := List.getElem?_of_mem hx
    have hlt := (List.getElem?_eq_some_iff.1 hi).1
    exact ho i x (by omega) hi
theorem IdxInt_ok (K : Hp) (mem : List Ent) (p : Option Addr) (n c : Nat) (l : List Int) (Y : Value) (g : Int → Bool) (hv : Reads K mem ⟨p, n, c⟩ 3 1 encI l) (hl : l.length < 4611686018427387904) (hY : Looks Tryz.prog K Y ekInt l mem g) : TR Tryz.prog K 282 [.o (.slice p n c), .o Y] mem
    fun u m => (∃ j : Int, u = .s (.o (.int .i64 j)) ∧ IsIdx g l j) ∧ m = mem := by
  refine tr_intro Tryz.func282 rfl rfl rfl fun cx hro hk hret => ?_
  refine sx_seq ?_
  refine sx_region ?_
  refine sxo_pure rfl rfl rfl trivial ?_
  refine sxo_end ?_
  refine sx_seq ?_
  refine sx_seq ?_
  refine sx_region ?_
  refine sxo_pure rfl rfl rfl trivial ?_
  refine sxo_len rfl rfl rfl rfl rfl (by assumption) rfl rfl ?_
  refine sxo_pure rfl rfl rfl trivial ?_
  refine sxo_end ?_
  refine sx_block ?_
  refine sx_less (by refine .cons rfl ?_; refine .cons rfl ?_; refine .cons rfl ?_; refine .cons rfl ?_; exact .nil _) .all (sx_loopI (γ := Nat) (fun j => j ≤ l.length ∧ ∀ (i : Nat) (x : Int), i < j → l[i]? = some x → g x = false) (fun j => l.length - j) (fun j => [(0, .s (.o (.slice p n c))), (1, .s (.o Y)), (7, .s (.o (.int .i64 l.length))), (8, .s (.o (.int .i64 j)))]) (fun _ => mem) 0 ⟨by omega, fun i x h => by omega⟩ ?_)
  rintro j ⟨hj, ho⟩ ih
  refine sx_seq ?_
  refine sx_region ?_
  refine sxo_pure rfl rfl rfl trivial ?_
  refine sxo_end ?_
  refine sx_seq ?_
  refine sx_cond rfl (fun h => ?_) (fun h => ?_)
  · simp at h
    refine sx_skip ?_
    refine sx_seq ?_
    refine sx_block ?_
    refine sx_seq ?_
    refine sx_region ?_
    refine sxo_pure rfl rfl rfl trivial ?_
    refine sxo_pure rfl rfl rfl trivial ?_
    refine sxo_end ?_
    refine sx_seq ?_
    refine sx_region ?_
    refine sxo_pure rfl rfl rfl trivial ?_
    refine sxo_pure rfl rfl rfl trivial ?_
    refine sxo_pure rfl rfl rfl trivial ?_
    refine sxo_indexAddr rfl rfl rfl rfl rfl rfl rfl hv (by omega) rfl (fun _ _ => ?_)
    refine sxo_loadEl0 rfl rfl rfl .head hv.skip rfl (by omega) (fun _ => rfl) rfl rfl (fun x hx => ?_)
    simp at hx
    refine sxo_callV rfl rfl rfl rfl (.skip .all) rfl rfl (fun Kc hK _ => hY.run Kc hK x (List.mem_of_getElem? hx)) ?_
    rintro v m ⟨rfl, rfl⟩
    refine sxo_end ?_
    refine sx_cond rfl (fun h2 => ?_) (fun h2 => ?_)
    · refine sx_seq ?_
      refine sx_region ?_
      refine sxo_pure rfl rfl rfl trivial ?_
      refine sxo_pure rfl rfl rfl trivial ?_
      refine sxo_end ?_
      refine sx_less (M := m) (.cons (t := 4) rfl (.nil _)) (by first | exact .all | exact take_mid) ?_
      refine sx_ret hret hro hk (.tmp rfl .nil) ⟨⟨j, rfl, .inr ⟨by omega, by omega, x, by simpa using hx, h2⟩⟩, rfl⟩
    · refine sx_skip ?_
      refine sx_inBlock ?_
      refine sx_region ?_
      refine sxo_pure rfl rfl rfl (by omega) ?_
      refine sxo_pure rfl rfl rfl trivial ?_
      refine sxo_end ?_
      exact sx_less (by refine .cons rfl ?_; refine .cons rfl ?_; refine .cons rfl ?_; refine .cons rfl ?_; exact .nil _) (by first | exact .all | exact take_mid) (ih (j + 1) ⟨by omega, fun i y hi hy => by
        by_cases e : i = j
        · subst e; rw [hx] at hy; cases hy; exact h2
        · exact ho i y (by omega) hy⟩ (by omega))
  · simp at h
    refine sx_exit rfl ?_
    refine sx_seq ?_
    refine sx_region ?_
    refine sxo_pure rfl rfl rfl trivial ?_
    refine sxo_end ?_
    refine sx_ret hret hro hk (.tmp rfl .nil) ⟨⟨-1, rfl, .inl ⟨rfl, fun x hx => ?_⟩⟩, rfl⟩
    obtain ⟨i, hi⟩ := List.getElem?_of_mem hx
    have hlt := (List.getElem?_eq_some_iff.1 hi).1
    exact ho i x (by omega) hi
theorem IdxByte_ok (K : Hp) (mem : List Ent) (p : Option Addr) (n c : Nat) (l : List UInt8) (Y : Value) (g : UInt8 → Bool) (hv : Reads K mem ⟨p, n, c⟩ 5 1 encB l) (hl : l.length < 4611686018427387904) (hY : Looks Tryz.prog K Y ekB l mem g) : TR Tryz.prog K 386 [.o (.slice p n c), .o Y] mem
    fun u m => (∃ j : Int, u = .s (.o (.int .i64 j)) ∧ IsIdx g l j) ∧ m = mem := by
  refine tr_intro Tryz.func386 rfl rfl rfl fun cx hro hk hret => ?_
  refine sx_seq ?_
  refine sx_region ?_
  refine sxo_pure rfl rfl rfl trivial ?_
  refine sxo_end ?_
  refine sx_seq ?_
  refine sx_seq ?_
  refine sx_region ?_
  refine sxo_pure rfl rfl rfl trivial ?_
  refine sxo_len rfl rfl rfl rfl rfl (by assumption) rfl rfl ?_
  refine sxo_pure rfl rfl rfl trivial ?_
  refine sxo_end ?_
  refine sx_block ?_
  refine sx_less (by refine .cons rfl ?_; refine .cons rfl ?_; refine .cons rfl ?_; refine .cons rfl ?_; exact .nil _) .all (sx_loopI (γ := Nat) (fun j => j ≤ l.length ∧ ∀ (i : Nat) (x : UInt8), i < j → l[i]? = some x → g x = false) (fun j => l.length - j) (fun j => [(0, .s (.o (.slice p n c))), (1, .s (.o Y)), (7, .s (.o (.int .i64 l.length))), (8, .s (.o (.int .i64 j)))]) (fun _ => mem) 0 ⟨by omega, fun i x h => by omega⟩ ?_)
  rintro j ⟨hj, ho⟩ ih
  refine sx_seq ?_
  refine sx_region ?_
  refine sxo_pure rfl rfl rfl trivial ?_
  refine sxo_end ?_
  refine sx_seq ?_
  refine sx_cond rfl (fun h => ?_) (fun h => ?_)
  · simp at h
    refine sx_skip ?_
    refine sx_seq ?_
    refine sx_block ?_
    refine sx_seq ?_
    refine sx_region ?_
    refine sxo_pure rfl rfl rfl trivial ?_
    refine sxo_pure rfl rfl rfl trivial ?_
    refine sxo_end ?_
    refine sx_seq ?_
    refine sx_region ?_
    refine sxo_pure rfl rfl rfl trivial ?_
    refine sxo_pure rfl rfl rfl trivial ?_
    refine sxo_pure rfl rfl rfl trivial ?_
    refine sxo_indexAddr rfl rfl rfl rfl rfl rfl rfl hv (by omega) rfl (fun _ _ => ?_)
    refine sxo_loadEl0 rfl rfl rfl .head hv.skip rfl (by omega) (fun _ => rfl) rfl rfl (fun x hx => ?_)
    simp at hx
    refine sxo_callV rfl rfl rfl rfl (.skip .all) rfl rfl (fun Kc hK _ => hY.run Kc hK x (List.mem_of_getElem? hx)) ?_
    rintro v m ⟨rfl, rfl⟩
    refine sxo_end ?_
    refine sx_cond rfl (fun h2 => ?_) (fun h2 => ?_)
    · refine sx_seq ?_
      refine sx_region ?_
      refine sxo_pure rfl rfl rfl trivial ?_
      refine sxo_pure rfl rfl rfl trivial ?_
      refine sxo_end ?_
      refine sx_less (M := m) (.cons (t := 4) rfl (.nil _)) (by first | exact .all | exact take_mid) ?_
      refine sx_ret hret hro hk (.tmp rfl .nil) ⟨⟨j, rfl, .inr ⟨by omega, by omega, x, by simpa using hx, h2⟩⟩, rfl⟩
    · refine sx_skip ?_
      refine sx_inBlock ?_
      refine sx_region ?_
      refine sxo_pure rfl rfl rfl (by omega) ?_
      refine sxo_pure rfl rfl rfl trivial ?_
      refine sxo_end ?_
      exact sx_less (by refine .cons rfl ?_; refine .cons rfl ?_; refine .cons rfl ?_; refine .cons rfl ?_; exact .nil _) (by first | exact .all | exact take_mid) (ih (j + 1) ⟨by omega, fun i y hi hy => by
        by_cases e : i = j
        · subst e; rw [hx] at hy; cases hy; exact h2
        · exact ho i y (by omega) hy⟩ (by omega))
  · simp at h
    refine sx_exit rfl ?_
    refine sx_seq ?_
    refine sx_region ?_
    refine sxo_pure rfl rfl rfl trivial ?_
    refine sxo_end ?_
    refine sx_ret hret hro hk (.tmp rfl .nil) ⟨⟨-1, rfl, .inl ⟨rfl, fun x hx => ?_⟩⟩, rfl⟩
    obtain ⟨i, hi⟩ := List.getElem?_of_mem hx
    have hlt := (List.getElem?_eq_some_iff.1 hi).1
    exact ho i x (by omega) hi
theorem IdxMember_ok (K : Hp) (mem : List Ent) (p : Option Addr) (n c : Nat) (l : List Member) (Y : Value) (g : Member → Bool) (hv : Reads K mem ⟨p, n, c⟩ 101 4 encM l) (hl : l.length < 4611686018427387904) (hY : Looks Tryz.prog K Y evM l mem g) : TR Tryz.prog K 283 [.o (.slice p n c), .o Y] mem
    fun u m => (∃ j : Int, u = .s (.o (.int .i64 j)) ∧ IsIdx g l j) ∧ m = mem := by
  refine tr_intro Tryz.func283 rfl rfl rfl fun cx hro hk hret => ?_
  refine sx_seq ?_
  refine sx_region ?_
  refine sxo_pure rfl rfl rfl trivial ?_
  refine sxo_end ?_
  refine sx_seq ?_
  refine sx_seq ?_
  refine sx_region ?_
  refine sxo_pure rfl rfl rfl trivial ?_
  refine sxo_len rfl rfl rfl rfl rfl (by assumption) rfl rfl ?_
  refine sxo_pure rfl rfl rfl trivial ?_
  refine sxo_end ?_
  refine sx_block ?_
  refine sx_less (by refine .cons rfl ?_; refine .cons rfl ?_; refine .cons rfl ?_; refine .cons rfl ?_; exact .nil _) .all (sx_loopI (γ := Nat) (fun j => j ≤ l.length ∧ ∀ (i : Nat) (x : Member), i < j → l[i]? = some x → g x = false) (fun j => l.length - j) (fun j => [(0, .s (.o (.slice p n c))), (1, .s (.o Y)), (7, .s (.o (.int .i64 l.length))), (8, .s (.o (.int .i64 j)))]) (fun _ => mem) 0 ⟨by omega, fun i x h => by omega⟩ ?_)
  rintro j ⟨hj, ho⟩ ih
  refine sx_seq ?_
  refine sx_region ?_
  refine sxo_pure rfl rfl rfl trivial ?_
  refine sxo_end ?_
  refine sx_seq ?_
  refine sx_cond rfl (fun h => ?_) (fun h => ?_)
  · simp at h
    refine sx_skip ?_
    refine sx_seq ?_
    refine sx_block ?_
    refine sx_seq ?_
    refine sx_region ?_
    refine sxo_pure rfl rfl rfl trivial ?_
    refine sxo_pure rfl rfl rfl trivial ?_
    refine sxo_end ?_
    refine sx_seq ?_
    refine sx_region ?_
    refine sxo_pure rfl rfl rfl trivial ?_
    refine sxo_pure rfl rfl rfl trivial ?_
    refine sxo_pure rfl rfl rfl trivial ?_
    refine sxo_indexAddr rfl rfl rfl rfl rfl rfl rfl hv (by omega) rfl (fun _ _ => ?_)
    refine sxo_loadEl0 rfl rfl rfl .head hv.skip rfl (by omega) (fun _ => rfl) rfl rfl (fun x hx => ?_)
    simp at hx
    refine sxo_callV rfl rfl rfl rfl (.skip .all) rfl rfl (fun Kc hK _ => hY.run Kc hK x (List.mem_of_getElem? hx)) ?_
    rintro v m ⟨rfl, rfl⟩
    refine sxo_end ?_
    refine sx_cond rfl (fun h2 => ?_) (fun h2 => ?_)
    · refine sx_seq ?_
      refine sx_region ?_
      refine sxo_pure rfl rfl rfl trivial ?_
      refine sxo_pure rfl rfl rfl trivial ?_
      refine sxo_end ?_
      refine sx_less (M := m) (.cons (t := 4) rfl (.nil _)) (by first | exact .all | exact take_mid) ?_
      refine sx_ret hret hro hk (.tmp rfl .nil) ⟨⟨j, rfl, .inr ⟨by omega, by omega, x, by simpa using hx, h2⟩⟩, rfl⟩
    · refine sx_skip ?_
      refine sx_inBlock ?_
      refine sx_region ?_
      refine sxo_pure rfl rfl rfl (by omega) ?_
      refine sxo_pure rfl rfl rfl trivial ?_
      refine sxo_end ?_
      exact sx_less (by refine .cons rfl ?_; refine .cons rfl ?_; refine .cons rfl ?_; refine .cons rfl ?_; exact .nil _) (by first | exact .all | exact take_mid) (ih (j + 1) ⟨by omega, fun i y hi hy => by
        by_cases e : i = j
        · subst e; rw [hx] at hy; cases hy; exact h2
        · exact ho i y (by omega) hy⟩ (by omega))
  · simp at h
    refine sx_exit rfl ?_
    refine sx_seq ?_
    refine sx_region ?_
    refine sxo_pure rfl rfl rfl trivial ?_
    refine sxo_end ?_
    refine sx_ret hret hro hk (.tmp rfl .nil) ⟨⟨-1, rfl, .inl ⟨rfl, fun x hx => ?_⟩⟩, rfl⟩
    obtain ⟨i, hi⟩ := List.getElem?_of_mem hx
    have hlt := (List.getElem?_eq_some_iff.1 hi).1
    exact ho i x (by omega) hi
theorem IdxBlob_ok (K : Hp) (mem : List Ent) (p : Option Addr) (n c : Nat) (l : List Blob) (Y : Value) (g : Blob → Bool) (hv : Reads K mem ⟨p, n, c⟩ 107 66 encBlob l) (hl : l.length < 4611686018427387904) (hY : Looks Tryz.prog K Y evBlob l mem g) : TR Tryz.prog K 161 [.o (.slice p n c), .o Y] mem
    fun u m => (∃ j : Int, u = .s (.o (.int .i64 j)) ∧ IsIdx g l j) ∧ m = mem := by
  refine tr_intro Tryz.func161 rfl rfl rfl fun cx hro hk hret => ?_
  refine sx_seq ?_
  refine sx_region ?_
  refine sxo_pure rfl rfl rfl trivial ?_
  refine sxo_end ?_
  refine sx_seq ?_
  refine sx_seq ?_
  refine sx_region ?_
  refine sxo_pure rfl rfl rfl trivial ?_
  refine sxo_len rfl rfl rfl rfl rfl (by assumption) rfl rfl ?_
  refine sxo_pure rfl rfl rfl trivial ?_
  refine sxo_end ?_
  refine sx_block ?_
  refine sx_less (by refine .cons rfl ?_; refine .cons rfl ?_; refine .cons rfl ?_; refine .cons rfl ?_; exact .nil _) .all (sx_loopI (γ := Nat) (fun j => j ≤ l.length ∧ ∀ (i : Nat) (x : Blob), i < j → l[i]? = some x → g x = false) (fun j => l.length - j) (fun j => [(0, .s (.o (.slice p n c))), (1, .s (.o Y)), (7, .s (.o (.int .i64 l.length))), (8, .s (.o (.int .i64 j)))]) (fun _ => mem) 0 ⟨by omega, fun i x h => by omega⟩ ?_)
  rintro j ⟨hj, ho⟩ ih
  refine sx_seq ?_
  refine sx_region ?_
  refine sxo_pure rfl rfl rfl trivial ?_
  refine sxo_end ?_
  refine sx_seq ?_
  refine sx_cond rfl (fun h => ?_) (fun h => ?_)
  · simp at h
    refine sx_skip ?_
    refine sx_seq ?_
    refine sx_block ?_
    refine sx_seq ?_
    refine sx_region ?_
    refine sxo_pure rfl rfl rfl trivial ?_
    refine sxo_pure rfl rfl rfl trivial ?_
    refine sxo_end ?_
    refine sx_seq ?_
    refine sx_region ?_
    refine sxo_pure rfl rfl rfl trivial ?_
    refine sxo_pure rfl rfl rfl trivial ?_
    refine sxo_pure rfl rfl rfl trivial ?_
    refine sxo_indexAddr rfl rfl rfl rfl rfl rfl rfl hv (by omega) rfl (fun _ _ => ?_)
    refine sxo_loadEl0 rfl rfl rfl .head hv.skip rfl (by omega) (fun _ => rfl) rfl rfl (fun x hx => ?_)
    simp at hx
    refine sxo_callV rfl rfl rfl rfl (.skip .all) rfl rfl (fun Kc hK _ => hY.run Kc hK x (List.mem_of_getElem? hx)) ?_
    rintro v m ⟨rfl, rfl⟩
    refine sxo_end ?_
    refine sx_cond rfl (fun h2 => ?_) (fun h2 => ?_)
    · refine sx_seq ?_
      refine sx_region ?_
      refine sxo_pure rfl rfl rfl trivial ?_
      refine sxo_pure rfl rfl rfl trivial ?_
      refine sxo_end ?_
      refine sx_less (M := m) (.cons (t := 4) rfl (.nil _)) (by first | exact .all | exact take_mid) ?_
      refine sx_ret hret hro hk (.tmp rfl .nil) ⟨⟨j, rfl, .inr ⟨by omega, by omega, x, by simpa using hx, h2⟩⟩, rfl⟩
    · refine sx_skip ?_
      refine sx_inBlock ?_
      refine sx_region ?_
      refine sxo_pure rfl rfl rfl (by omega) ?_
      refine sxo_pure rfl rfl rfl trivial ?_
      refine sxo_end ?_
      exact sx_less (by refine .cons rfl ?_; refine .cons rfl ?_; refine .cons rfl ?_; refine .cons rfl ?_; exact .nil _) (by first | exact .all | exact take_mid) (ih (j + 1) ⟨by omega, fun i y hi hy => by
        by_cases e : i = j
        · subst e; rw [hx] at hy; cases hy; exact h2
        · exact ho i y (by omega) hy⟩ (by omega))
  · simp at h
    refine sx_exit rfl ?_
    refine sx_seq ?_
    refine sx_region ?_
    refine sxo_pure rfl rfl rfl trivial ?_
    refine sxo_end ?_
    refine sx_ret hret hro hk (.tmp rfl .nil) ⟨⟨-1, rfl, .inl ⟨rfl, fun x hx => ?_⟩⟩, rfl⟩
    obtain ⟨i, hi⟩ := List.getElem?_of_mem hx
    have hlt := (List.getElem?_eq_some_iff.1 hi).1
    exact ho i x (by omega) hi
theorem IdxLate_ok (K : Hp) (mem : List Ent) (p : Option Addr) (n c : Nat) (l : List Late) (Y : Value) (g : Late → Bool) (hv : Reads K mem ⟨p, n, c⟩ 370 3 encLate l) (hl : l.length < 4611686018427387904) (hY : Looks Tryz.prog K Y evLate l mem g) : TR Tryz.prog K 391 [.o (.slice p n c), .o Y] mem
    fun u m => (∃ j : Int, u = .s (.o (.int .i64 j)) ∧ IsIdx g l j) ∧ m = mem := by
  refine tr_intro Tryz.func391 rfl rfl rfl fun cx hro hk hret => ?_
  refine sx_seq ?_
  refine sx_region ?_
  refine sxo_pure rfl rfl rfl trivial ?_
  refine sxo_end ?_
  refine sx_seq ?_
  refine sx_seq ?_
  refine sx_region ?_
  refine sxo_pure rfl rfl rfl trivial ?_
  refine sxo_len rfl rfl rfl rfl rfl (by assumption) rfl rfl ?_
  refine sxo_pure rfl rfl rfl trivial ?_
  refine sxo_end ?_
  refine sx_block ?_
  refine sx_less (by refine .cons rfl ?_; refine .cons rfl ?_; refine .cons rfl ?_; refine .cons rfl ?_; exact .nil _) .all (sx_loopI (γ := Nat) (fun j => j ≤ l.length ∧ ∀ (i : Nat) (x : Late), i < j → l[i]? = some x → g x = false) (fun j => l.length - j) (fun j => [(0, .s (.o (.slice p n c))), (1, .s (.o Y)), (7, .s (.o (.int .i64 l.length))), (8, .s (.o (.int .i64 j)))]) (fun _ => mem) 0 ⟨by omega, fun i x h => by omega⟩ ?_)
  rintro j ⟨hj, ho⟩ ih
  refine sx_seq ?_
  refine sx_region ?_
  refine sxo_pure rfl rfl rfl trivial ?_
  refine sxo_end ?_
  refine sx_seq ?_
  refine sx_cond rfl (fun h => ?_) (fun h => ?_)
  · simp at h
    refine sx_skip ?_
    refine sx_seq ?_
    refine sx_block ?_
    refine sx_seq ?_
    refine sx_region ?_
    refine sxo_pure rfl rfl rfl trivial ?_
    refine sxo_pure rfl rfl rfl trivial ?_
    refine sxo_end ?_
    refine sx_seq ?_
    refine sx_region ?_
    refine sxo_pure rfl rfl rfl trivial ?_
    refine sxo_pure rfl rfl rfl trivial ?_
    refine sxo_pure rfl rfl rfl trivial ?_
    refine sxo_indexAddr rfl rfl rfl rfl rfl rfl rfl hv (by omega) rfl (fun _ _ => ?_)
    refine sxo_loadEl0 rfl rfl rfl .head hv.skip rfl (by omega) (fun _ => rfl) rfl rfl (fun x hx => ?_)
    simp at hx
    refine sxo_callV rfl rfl rfl rfl (.skip .all) rfl rfl (fun Kc hK _ => hY.run Kc hK x (List.mem_of_getElem? hx)) ?_
    rintro v m ⟨rfl, rfl⟩
    refine sxo_end ?_
    refine sx_cond rfl (fun h2 => ?_) (fun h2 => ?_)
    · refine sx_seq ?_
      refine sx_region ?_
      refine sxo_pure rfl rfl rfl trivial ?_
      refine sxo_pure rfl rfl rfl trivial ?_
      refine sxo_end ?_
      refine sx_less (M := m) (.cons (t := 4) rfl (.nil _)) (by first | exact .all | exact take_mid) ?_
      refine sx_ret hret hro hk (.tmp rfl .nil) ⟨⟨j, rfl, .inr ⟨by omega, by omega, x, by simpa using hx, h2⟩⟩, rfl⟩
    · refine sx_skip ?_
      refine sx_inBlock ?_
      refine sx_region ?_
      refine sxo_pure rfl rfl rfl (by omega) ?_
      refine sxo_pure rfl rfl rfl trivial ?_
      refine sxo_end ?_
      exact sx_less (by refine .cons rfl ?_; refine .cons rfl ?_; refine .cons rfl ?_; refine .cons rfl ?_; exact .nil _) (by first | exact .all | exact take_mid) (ih (j + 1) ⟨by omega, fun i y hi hy => by
        by_cases e : i = j
        · subst e; rw [hx] at hy; cases hy; exact h2
        · exact ho i y (by omega) hy⟩ (by omega))
  · simp at h
    refine sx_exit rfl ?_
    refine sx_seq ?_
    refine sx_region ?_
    refine sxo_pure rfl rfl rfl trivial ?_
    refine sxo_end ?_
    refine sx_ret hret hro hk (.tmp rfl .nil) ⟨⟨-1, rfl, .inl ⟨rfl, fun x hx => ?_⟩⟩, rfl⟩
    obtain ⟨i, hi⟩ := List.getElem?_of_mem hx
    have hlt := (List.getElem?_eq_some_iff.1 hi).1
    exact ho i x (by omega) hi
theorem IdxPull_ok (K : Hp) (mem : List Ent) (p : Option Addr) (n c : Nat) (l : List Nat) (Y : Value) (g : Nat → Bool) (hv : Reads K mem ⟨p, n, c⟩ 93 1 encP l) (hl : l.length < 4611686018427387904) (hY : Looks Tryz.prog K Y evPtr l mem g) : TR Tryz.prog K 109 [.o (.slice p n c), .o Y] mem
    fun u m => (∃ j : Int, u = .s (.o (.int .i64 j)) ∧ IsIdx g l j) ∧ m = mem := by
  refine tr_intro Tryz.func109 rfl rfl rfl fun cx hro hk hret => ?_
  refine sx_seq ?_
  refine sx_region ?_
  refine sxo_pure rfl rfl rfl trivial ?_
  refine sxo_end ?_
  refine sx_seq ?_
  refine sx_seq ?_
  refine sx_region ?_
  refine sxo_pure rfl rfl rfl trivial ?_
  refine sxo_len rfl rfl rfl rfl rfl (by assumption) rfl rfl ?_
  refine sxo_pure rfl rfl rfl trivial ?_
  refine sxo_end ?_
  refine sx_block ?_
  refine sx_less (by refine .cons rfl ?_; refine .cons rfl ?_; refine .cons rfl ?_; refine .cons rfl ?_; exact .nil _) .all (sx_loopI (γ := Nat) (fun j => j ≤ l.length ∧ ∀ (i : Nat) (x : Nat), i < j → l[i]? = some x → g x = false) (fun j => l.length - j) (fun j => [(0, .s (.o (.slice p n c))), (1, .s (.o Y)), (7, .s (.o (.int .i64 l.length))), (8, .s (.o (.int .i64 j)))]) (fun _ => mem) 0 ⟨by omega, fun i x h => by omega⟩ ?_)
  rintro j ⟨hj, ho⟩ ih
  refine sx_seq ?_
  refine sx_region ?_
  refine sxo_pure rfl rfl rfl trivial ?_
  refine sxo_end ?_
  refine sx_seq ?_
  refine sx_cond rfl (fun h => ?_) (fun h => ?_)
  · simp at h
    refine sx_skip ?_
    refine sx_seq ?_
    refine sx_block ?_
    refine sx_seq ?_
    refine sx_region ?_
    refine sxo_pure rfl rfl rfl trivial ?_
    refine sxo_pure rfl rfl rfl trivial ?_
    refine sxo_end ?_
    refine sx_seq ?_
    refine sx_region ?_
    refine sxo_pure rfl rfl rfl trivial ?_
    refine sxo_pure rfl rfl rfl trivial ?_
    refine sxo_pure rfl rfl rfl trivial ?_
    refine sxo_indexAddr rfl rfl rfl rfl rfl rfl rfl hv (by omega) rfl (fun _ _ => ?_)
    refine sxo_loadEl0 rfl rfl rfl .head hv.skip rfl (by omega) (fun _ => rfl) rfl rfl (fun x hx => ?_)
    simp at hx
    refine sxo_callV rfl rfl rfl rfl (.skip .all) rfl rfl (fun Kc hK _ => hY.run Kc hK x (List.mem_of_getElem? hx)) ?_
    rintro v m ⟨rfl, rfl⟩
    refine sxo_end ?_
    refine sx_cond rfl (fun h2 => ?_) (fun h2 => ?_)
    · refine sx_seq ?_
      refine sx_region ?_
      refine sxo_pure rfl rfl rfl trivial ?_
      refine sxo_pure rfl rfl rfl trivial ?_
      refine sxo_end ?_
      refine sx_less (M := m) (.cons (t := 4) rfl (.nil _)) (by first | exact .all | exact take_mid) ?_
      refine sx_ret hret hro hk (.tmp rfl .nil) ⟨⟨j, rfl, .inr ⟨by omega, by omega, x, by simpa using hx, h2⟩⟩, rfl⟩
    · refine sx_skip ?_
      refine sx_inBlock ?_
      refine sx_region ?_
      refine sxo_pure rfl rfl rfl (by omega) ?_
      refine sxo_pure rfl rfl rfl trivial ?_
      refine sxo_end ?_
      exact sx_less (by refine .cons rfl ?_; refine .cons rfl ?_; refine .cons rfl ?_; refine .cons rfl ?_; exact .nil _) (by first | exact .all | exact take_mid) (ih (j + 1) ⟨by omega, fun i y hi hy => by
        by_cases e : i = j
        · subst e; rw [hx] at hy; cases hy; exact h2
        · exact ho i y (by omega) hy⟩ (by omega))
  · simp at h
    refine sx_exit rfl ?_
    refine sx_seq ?_
    refine sx_region ?_
    refine sxo_pure rfl rfl rfl trivial ?_
    refine sxo_end ?_
    refine sx_ret hret hro hk (.tmp rfl .nil) ⟨⟨-1, rfl, .inl ⟨rfl, fun x hx => ?_⟩⟩, rfl⟩
    obtain ⟨i, hi⟩ := List.getElem?_of_mem hx
    have hlt := (List.getElem?_eq_some_iff.1 hi).1
    exact ho i x (by omega) hi
theorem IdxTaken_ok (K : Hp) (mem : List Ent) (p : Option Addr) (n c : Nat) (l : List Nat) (Y : Value) (g : Nat → Bool) (hv : Reads K mem ⟨p, n, c⟩ 133 1 encP l) (hl : l.length < 4611686018427387904) (hY : Looks Tryz.prog K Y evPtr l mem g) : TR Tryz.prog K 323 [.o (.slice p n c), .o Y] mem
    fun u m => (∃ j : Int, u = .s (.o (.int .i64 j)) ∧ IsIdx g l j) ∧ m = mem := by
  refine tr_intro Tryz.func323 rfl rfl rfl fun cx hro hk hret => ?_
  refine sx_seq ?_
  refine sx_region ?_
  refine sxo_pure rfl rfl rfl trivial ?_
  refine sxo_end ?_
  refine sx_seq ?_
  refine sx_seq ?_
  refine sx_region ?_
  refine sxo_pure rfl rfl rfl trivial ?_
  refine sxo_len rfl rfl rfl rfl rfl (by assumption) rfl rfl ?_
  refine sxo_pure rfl rfl rfl trivial ?_
  refine sxo_end ?_
  refine sx_block ?_
  refine sx_less (by refine .cons rfl ?_; refine .cons rfl ?_; refine .cons rfl ?_; refine .cons rfl ?_; exact .nil _) .all (sx_loopI (γ := Nat) (fun j => j ≤ l.length ∧ ∀ (i : Nat) (x : Nat), i < j → l[i]? = some x → g x = false) (fun j => l.length - j) (fun j => [(0, .s (.o (.slice p n c))), (1, .s (.o Y)), (7, .s (.o (.int .i64 l.length))), (8, .s (.o (.int .i64 j)))]) (fun _ => mem) 0 ⟨by omega, fun i x h => by omega⟩ ?_)
  rintro j ⟨hj, ho⟩ ih
  refine sx_seq ?_
  refine sx_region ?_
  refine sxo_pure rfl rfl rfl trivial ?_
  refine sxo_end ?_
  refine sx_seq ?_
  refine sx_cond rfl (fun h => ?_) (fun h => ?_)
  · simp at h
    refine sx_skip ?_
    refine sx_seq ?_
    refine sx_block ?_
    refine sx_seq ?_
    refine sx_region ?_
    refine sxo_pure rfl rfl rfl trivial ?_
    refine sxo_pure rfl rfl rfl trivial ?_
    refine sxo_end ?_
    refine sx_seq ?_
    refine sx_region ?_
    refine sxo_pure rfl rfl rfl trivial ?_
    refine sxo_pure rfl rfl rfl trivial ?_
    refine sxo_pure rfl rfl rfl trivial ?_
    refine sxo_indexAddr rfl rfl rfl rfl rfl rfl rfl hv (by omega) rfl (fun _ _ => ?_)
    refine sxo_loadEl0 rfl rfl rfl .head hv.skip rfl (by omega) (fun _ => rfl) rfl rfl (fun x hx => ?_)
    simp at hx
    refine sxo_callV rfl rfl rfl rfl (.skip .all) rfl rfl (fun Kc hK _ => hY.run Kc hK x (List.mem_of_getElem? hx)) ?_
    rintro v m ⟨rfl, rfl⟩
    refine sxo_end ?_
    refine sx_cond rfl (fun h2 => ?_) (fun h2 => ?_)
    · refine sx_seq ?_
      refine sx_region ?_
      refine sxo_pure rfl rfl rfl trivial ?_
      refine sxo_pure rfl rfl rfl trivial ?_
      refine sxo_end ?_
      refine sx_less (M := m) (.cons (t := 4) rfl (.nil _)) (by first | exact .all | exact take_mid) ?_
      refine sx_ret hret hro hk (.tmp rfl .nil) ⟨⟨j, rfl, .inr ⟨by omega, by omega, x, by simpa using hx, h2⟩⟩, rfl⟩
    · refine sx_skip ?_
      refine sx_inBlock ?_
      refine sx_region ?_
      refine sxo_pure rfl rfl rfl (by omega) ?_
      refine sxo_pure rfl rfl rfl trivial ?_
      refine sxo_end ?_
      exact sx_less (by refine .cons rfl ?_; refine .cons rfl ?_; refine .cons rfl ?_; refine .cons rfl ?_; exact .nil _) (by first | exact .all | exact take_mid) (ih (j + 1) ⟨by omega, fun i y hi hy => by
        by_cases e : i = j
        · subst e; rw [hx] at hy; cases hy; exact h2
        · exact ho i y (by omega) hy⟩ (by omega))
  · simp at h
    refine sx_exit rfl ?_
    refine sx_seq ?_
    refine sx_region ?_
    refine sxo_pure rfl rfl rfl trivial ?_
    refine sxo_end ?_
    refine sx_ret hret hro hk (.tmp rfl .nil) ⟨⟨-1, rfl, .inl ⟨rfl, fun x hx => ?_⟩⟩, rfl⟩
    obtain ⟨i, hi⟩ := List.getElem?_of_mem hx
    have hlt := (List.getElem?_eq_some_iff.1 hi).1
    exact ho i x (by omega) hi
theorem CtsRate_ok (K : Hp) (mem : List Ent) (p : Option Addr) (n c : Nat) (l : List Rate) (Y : Value) (g : Rate → Bool) (hv : ∀ Kc, Sub K Kc → Reads Kc mem ⟨p, n, c⟩ 163 3 encR l) (hl : l.length < 4611686018427387904) (hY : Looks Tryz.prog K Y evR l mem g) : TR Tryz.prog K 342 [.o (.slice p n c), .o Y] mem
    fun u m => u = .s (.o (.bool (l.any g))) ∧ m = mem := by
  refine tr_intro Tryz.func342 rfl rfl rfl fun cx hro hk hret => ?_
  refine sx_seq ?_
  refine sx_region ?_
  refine sxo_pure rfl rfl rfl trivial ?_
  refine sxo_end ?_
  refine sx_seq ?_
  refine sx_region ?_
  refine sxo_pure rfl rfl rfl trivial ?_
  refine sxo_pure rfl rfl rfl trivial ?_
  refine sxo_call0 rfl rfl rfl rfl .all (fun Kc hK hB => IdxRate_ok Kc mem p n c l Y g (hv Kc hK) hl ⟨fun Kd hd => hY.run Kd (hK.trans hd)⟩) rfl rfl ?_
  rintro v m ⟨⟨j, rfl, hj⟩, rfl⟩
  simp only [List.append_nil]
  refine sxo_pure rfl rfl rfl trivial ?_
  refine sxo_pure rfl rfl rfl trivial ?_
  refine sxo_end ?_
  refine sx_ret hret hro hk (.tmp rfl .nil) ⟨?_, rfl⟩
  rcases hj with ⟨rfl, h⟩ | ⟨h1, h2, x, h3, h4⟩
  · have : l.any g = false := by simpa using h
    rw [this]; rfl
  · have : l.any g = true := List.any_eq_true.2 ⟨x, List.mem_of_getElem? h3, h4⟩
    rw [this]; simp [resV, h1]
theorem CtsInt_ok (K : Hp) (mem : List Ent) (p : Option Addr) (n c : Nat) (l : List Int) (Y : Value) (g : Int → Bool) (hv : ∀ Kc, Sub K Kc → Reads Kc mem ⟨p, n, c⟩ 3 1 encI l) (hl : l.length < 4611686018427387904) (hY : Looks Tryz.prog K Y ekInt l mem g) : TR Tryz.prog K 178 [.o (.slice p n c), .o Y] mem
    fun u m => u = .s (.o (.bool (l.any g))) ∧ m = mem := by
  refine tr_intro Tryz.func178 rfl rfl rfl fun cx hro hk hret => ?_
  refine sx_seq ?_
  refine sx_region ?_
  refine sxo_pure rfl rfl rfl trivial ?_
  refine sxo_end ?_
  refine sx_seq ?_
  refine sx_region ?_
  refine sxo_pure rfl rfl rfl trivial ?_
  refine sxo_pure rfl rfl rfl trivial ?_
  refine sxo_call0 rfl rfl rfl rfl .all (fun Kc hK hB => IdxInt_ok Kc mem p n c l Y g (hv Kc hK) hl ⟨fun Kd hd => hY.run Kd (hK.trans hd)⟩) rfl rfl ?_
  rintro v m ⟨⟨j, rfl, hj⟩, rfl⟩
  simp only [List.append_nil]
  refine sxo_pure rfl rfl rfl trivial ?_
  refine sxo_pure rfl rfl rfl trivial ?_
  refine sxo_end ?_
  refine sx_ret hret hro hk (.tmp rfl .nil) ⟨?_, rfl⟩
  rcases hj with ⟨rfl, h⟩ | ⟨h1, h2, x, h3, h4⟩
  · have : l.any g = false := by simpa using h
    rw [this]; rfl
  · have : l.any g = true := List.any_eq_true.2 ⟨x, List.mem_of_getElem? h3, h4⟩
    rw [this]; simp [resV, h1]
theorem CtsByte_ok (K : Hp) (mem : List Ent) (p : Option Addr) (n c : Nat) (l : List UInt8) (Y : Value) (g : UInt8 → Bool) (hv : ∀ Kc, Sub K Kc → Reads Kc mem ⟨p, n, c⟩ 5 1 encB l) (hl : l.length < 4611686018427387904) (hY : Looks Tryz.prog K Y ekB l mem g) : TR Tryz.prog K 313 [.o (.slice p n c), .o Y] mem
    fun u m => u = .s (.o (.bool (l.any g))) ∧ m = mem := by
  refine tr_intro Tryz.func313 rfl rfl rfl fun cx hro hk hret => ?_
  refine sx_seq ?_
  refine sx_region ?_
  refine sxo_pure rfl rfl rfl trivial ?_
  refine sxo_end ?_
  refine sx_seq ?_
  refine sx_region ?_
  refine sxo_pure rfl rfl rfl trivial ?_
  refine sxo_pure rfl rfl rfl trivial ?_
  refine sxo_call0 rfl rfl rfl rfl .all (fun Kc hK hB => IdxByte_ok Kc mem p n c l Y g (hv Kc hK) hl ⟨fun Kd hd => hY.run Kd (hK.trans hd)⟩) rfl rfl ?_
  rintro v m ⟨⟨j, rfl, hj⟩, rfl⟩
  simp only [List.append_nil]
  refine sxo_pure rfl rfl rfl trivial ?_
  refine sxo_pure rfl rfl rfl trivial ?_
  refine sxo_end ?_
  refine sx_ret hret hro hk (.tmp rfl .nil) ⟨?_, rfl⟩
  rcases hj with ⟨rfl, h⟩ | ⟨h1, h2, x, h3, h4⟩
  · have : l.any g = false := by simpa using h
    rw [this]; rfl
  · have : l.any g = true := List.any_eq_true.2 ⟨x, List.mem_of_getElem? h3, h4⟩
    rw [this]; simp [resV, h1]
theorem CtsMember_ok (K : Hp) (mem : List Ent) (p : Option Addr) (n c : Nat) (l : List Member) (Y : Value) (g : Member → Bool) (hv : ∀ Kc, Sub K Kc → Reads Kc mem ⟨p, n, c⟩ 101 4 encM l) (hl : l.length < 4611686018427387904) (hY : Looks Tryz.prog K Y evM l mem g) : TR Tryz.prog K 180 [.o (.slice p n c), .o Y] mem
    fun u m => u = .s (.o (.bool (l.any g))) ∧ m = mem := by
  refine tr_intro Tryz.func180 rfl rfl rfl fun cx hro hk hret => ?_
  refine sx_seq ?_
  refine sx_region ?_
  refine sxo_pure rfl rfl rfl trivial ?_
  refine sxo_end ?_
  refine sx_seq ?_
  refine sx_region ?_
  refine sxo_pure rfl rfl rfl trivial ?_
  refine sxo_pure rfl rfl rfl trivial ?_
  refine sxo_call0 rfl rfl rfl rfl .all (fun Kc hK hB => IdxMember_ok Kc mem p n c l Y g (hv Kc hK) hl ⟨fun Kd hd => hY.run Kd (hK.trans hd)⟩) rfl rfl ?_
  rintro v m ⟨⟨j, rfl, hj⟩, rfl⟩
  simp only [List.append_nil]
  refine sxo_pure rfl rfl rfl trivial ?_
  refine sxo_pure rfl rfl rfl trivial ?_
  refine sxo_end ?_
  refine sx_ret hret hro hk (.tmp rfl .nil) ⟨?_, rfl⟩
  rcases hj with ⟨rfl, h⟩ | ⟨h1, h2, x, h3, h4⟩
  · have : l.any g = false := by simpa using h
    rw [this]; rfl
  · have : l.any g = true := List.any_eq_true.2 ⟨x, List.mem_of_getElem? h3, h4⟩
    rw [this]; simp [resV, h1]
end Go.SX

namespace Go.SX
open Go.Proofs
attribute [local irreducible] SX SXo
@[reducible] def evB (b : Bool) : SV1 := .o (.bool b)
instance : HasZ Bool := ⟨false⟩
def oddR (x : Rate) : Bool := decide (x.id < 1) || (decide (65536 < x.id) || (decide (x.bytes < 0) || decide (1099511627776 < x.bytes)))
theorem right1_ok (K : Hp) (x : Rate) : TR Tryz.prog K 341 [evR x] [] fun v r => v = .s (.o (.bool (oddR x))) ∧ r = [] := by
  refine tr_intro Tryz.func341 rfl rfl rfl fun cx hro hk hret => ?_
  refine sx_seq ?_
  refine sx_region ?_
  refine sxo_box rfl rfl rfl rfl rfl rfl (fun _ => ?_)
  refine sxo_pure rfl rfl rfl trivial ?_
  refine sxo_end ?_
  refine sx_seq ?_
  refine sx_region ?_
  refine sxo_pure rfl rfl rfl trivial ?_
  refine sxo_load rfl rfl rfl (by exact .head) rfl rfl rfl rfl ?_
  refine sxo_pure rfl rfl rfl trivial ?_
  refine sxo_pure rfl rfl rfl trivial ?_
  refine sxo_split (t := 6) rfl (fun h1 => ?_) (fun h1 => ?_)
  · refine sxo_pass rfl rfl rfl ?_
    refine sxo_pass rfl rfl rfl ?_
    refine sxo_pass rfl rfl rfl ?_
    refine sxo_pure rfl rfl rfl trivial ?_
    refine sxo_pure rfl rfl rfl trivial ?_
    refine sxo_pass rfl rfl rfl ?_
    refine sxo_pass rfl rfl rfl ?_
    refine sxo_pass rfl rfl rfl ?_
    refine sxo_pure rfl rfl rfl trivial ?_
    refine sxo_pure rfl rfl rfl trivial ?_
    refine sxo_pass rfl rfl rfl ?_
    refine sxo_pass rfl rfl rfl ?_
    refine sxo_pass rfl rfl rfl ?_
    refine sxo_pure rfl rfl rfl trivial ?_
    refine sxo_pure rfl rfl rfl trivial ?_
    refine sxo_end ?_
    refine sx_retL hret hro hk (.tmp rfl .nil) ⟨by simp [resV, oddR, h1], rfl⟩ (by exact .nil)
  refine sxo_pure rfl rfl rfl trivial ?_
  refine sxo_load rfl rfl rfl (by exact .head) rfl rfl rfl rfl ?_
  refine sxo_pure rfl rfl rfl trivial ?_
  refine sxo_pure rfl rfl rfl trivial ?_
  refine sxo_pure rfl rfl rfl trivial ?_
  refine sxo_split (t := 11) rfl (fun h2 => ?_) (fun h2 => ?_)
  · refine sxo_pass rfl rfl rfl ?_
    refine sxo_pass rfl rfl rfl ?_
    refine sxo_pass rfl rfl rfl ?_
    refine sxo_pure rfl rfl rfl trivial ?_
    refine sxo_pure rfl rfl rfl trivial ?_
    refine sxo_pass rfl rfl rfl ?_
    refine sxo_pass rfl rfl rfl ?_
    refine sxo_pass rfl rfl rfl ?_
    refine sxo_pure rfl rfl rfl trivial ?_
    refine sxo_pure rfl rfl rfl trivial ?_
    refine sxo_end ?_
    refine sx_retL hret hro hk (.tmp rfl .nil) ⟨by simp [resV, oddR, h1, h2], rfl⟩ (by exact .nil)
  refine sxo_pure rfl rfl rfl trivial ?_
  refine sxo_load rfl rfl rfl (by exact .head) rfl rfl rfl rfl ?_
  refine sxo_pure rfl rfl rfl trivial ?_
  refine sxo_pure rfl rfl rfl trivial ?_
  refine sxo_pure rfl rfl rfl trivial ?_
  refine sxo_split (t := 16) rfl (fun h3 => ?_) (fun h3 => ?_)
  · refine sxo_pass rfl rfl rfl ?_
    refine sxo_pass rfl rfl rfl ?_
    refine sxo_pass rfl rfl rfl ?_
    refine sxo_pure rfl rfl rfl trivial ?_
    refine sxo_pure rfl rfl rfl trivial ?_
    refine sxo_end ?_
    refine sx_retL hret hro hk (.tmp rfl .nil) ⟨by simp [resV, oddR, h1, h2, h3], rfl⟩ (by exact .nil)
  refine sxo_pure rfl rfl rfl trivial ?_
  refine sxo_load rfl rfl rfl (by exact .head) rfl rfl rfl rfl ?_
  refine sxo_pure rfl rfl rfl trivial ?_
  refine sxo_pure rfl rfl rfl trivial ?_
  refine sxo_pure rfl rfl rfl trivial ?_
  refine sxo_end ?_
  refine sx_retL hret hro hk (.tmp rfl .nil) ⟨by simp [resV, oddR, h1, h2, h3], rfl⟩ (by exact .nil)
theorem chokeRight_ok (K : Hp) (p : Option Addr) (n c : Nat) (l : List Rate) (hl : l.length ≤ 64) : TR Tryz.prog K 251 [.o (.slice p n c)] [.vec ⟨p, n, c⟩ 163 3 encR l]
    fun v r => (∃ e, v = .s (.o (.int .i64 e))) ∧ r = [.vec ⟨p, n, c⟩ 163 3 encR l] := by
  refine tr_intro Tryz.func251 rfl rfl rfl fun cx hro hk hret => ?_
  refine sx_seq ?_
  refine sx_region ?_
  refine sxo_pure rfl rfl rfl trivial ?_
  refine sxo_end ?_
  refine sx_seq ?_
  refine sx_region ?_
  refine sxo_pure rfl rfl rfl trivial ?_
  refine sxo_end ?_
  refine sx_seq ?_
  refine sx_seq ?_
  refine sx_region ?_
  refine sxo_pure rfl rfl rfl trivial ?_
  refine sxo_len rfl rfl rfl rfl rfl (by exact Reads.own (by exact .head)) rfl rfl ?_
  refine sxo_pure rfl rfl rfl trivial ?_
  refine sxo_pure rfl rfl rfl trivial ?_
  refine sxo_split (t := 10) rfl (fun h1 => ?_) (fun h1 => ?_)
  · simp at h1; omega
  refine sxo_pure rfl rfl rfl trivial ?_
  refine sxo_pure rfl rfl rfl trivial ?_
  refine sxo_call0 rfl rfl rfl rfl (by (apply Take.cons; focus exact .head); exact .nil) (fun Kc hK hB => CtsRate_ok Kc [.vec ⟨p, n, c⟩ 163 3 encR l] p n c l _ oddR (fun _ _ => Reads.own (by exact .head)) (by omega) (Looks.of0 right1_ok)) rfl rfl ?_ (hH := by rintro v m ⟨rfl, rfl⟩; (exact hh_nil))
  rintro v m ⟨rfl, rfl⟩
  simp only [List.cons_append, List.nil_append, List.append_nil, resV]
  refine sxo_pure rfl rfl rfl trivial ?_
  refine sxo_end ?_
  refine sx_cond rfl (fun h2 => ?_) (fun h2 => ?_)
  · refine sx_seq ?_
    refine sx_region ?_
    refine sxo_pure rfl rfl rfl trivial ?_
    refine sxo_end ?_
    refine sx_retL hret hro hk (.tmp rfl .nil) ⟨⟨_, rfl⟩, rfl⟩ (by (apply Take.cons; focus exact .head); exact .nil)
  refine sx_skip ?_
  refine sx_seq ?_
  refine sx_region ?_
  refine sxo_makeMap ekInt evB rfl rfl rfl rfl (fun bm => ?_)
  refine sxo_pure rfl rfl rfl trivial ?_
  refine sxo_end ?_
  refine sx_seq ?_
  refine sx_seq ?_
  refine sx_region ?_
  refine sxo_pure rfl rfl rfl trivial ?_
  refine sxo_len rfl rfl rfl rfl rfl (by exact Reads.own (by exact .tail .head)) rfl rfl ?_
  refine sxo_pure rfl rfl rfl trivial ?_
  refine sxo_end ?_
  refine sx_block ?_
  refine sx_less (by refine .cons rfl ?_; refine .cons rfl ?_; refine .cons rfl ?_; refine .cons rfl ?_; refine .cons rfl ?_; exact .nil _) (by (apply Take.cons; focus exact .head); (apply Take.cons; focus exact .head); exact .nil) (sx_loopI (γ := Nat × List (Int × Bool)) (fun x => x.1 ≤ l.length) (fun x => l.length - x.1) (fun x => [(0, .s (.o (.slice p n c))), (16, .s (.o (.slice p n c))), (17, .s (.o (.int .i64 l.length))), (18, .s (.o (.int .i64 x.1))), (4, .s (.o (.map (some bm))))]) (fun x => [.map bm ekInt evB x.2, .vec ⟨p, n, c⟩ 163 3 encR l]) ((0, [])) (by simp) ?_)
  rintro ⟨j, m⟩ hj ih
  simp only at hj
  refine sx_seq ?_
  refine sx_region ?_
  refine sxo_pure rfl rfl rfl trivial ?_
  refine sxo_end ?_
  refine sx_seq ?_
  refine sx_cond rfl (fun h => ?_) (fun h => ?_)
  · simp at h
    refine sx_skip ?_
    refine sx_seq ?_
    refine sx_block ?_
    refine sx_seq ?_
    refine sx_region ?_
    refine sxo_indexAddr rfl rfl rfl rfl rfl rfl rfl (Reads.own (by exact .tail .head)) (by omega) rfl (fun _ _ => ?_)
    refine sxo_loadEl0 rfl rfl rfl (by exact .head) (Reads.own (by exact .tail (.tail .head))) rfl (by omega) (fun _ => rfl) rfl rfl (fun x hx => ?_)
    refine sxo_alloc rfl rfl rfl rfl rfl rfl (fun _ => ?_)
    refine sxo_store rfl rfl rfl rfl (by exact .head) rfl rfl rfl rfl rfl ?_
    refine sxo_end ?_
    refine sx_region ?_
    refine sxo_pure rfl rfl rfl trivial ?_
    refine sxo_pure rfl rfl rfl trivial ?_
    refine sxo_load rfl rfl rfl (by exact .head) rfl rfl rfl rfl ?_
    refine sxo_update ekInt _ (v := true) (.inl rfl) rfl rfl rfl rfl (by exact .tail (.tail .head)) rfl rfl (kt_int rfl rfl) rfl rfl ?_
    refine sxo_end ?_
    refine sx_inBlock ?_
    refine sx_region ?_
    refine sxo_pure rfl rfl rfl (by omega) ?_
    refine sxo_pure rfl rfl rfl trivial ?_
    refine sxo_end ?_
    refine sx_less (by refine .cons rfl ?_; refine .cons rfl ?_; refine .cons rfl ?_; refine .cons rfl ?_; refine .cons rfl ?_; exact .nil _) (by (apply Take.cons; focus exact .head); (apply Take.cons; focus exact .tail (.tail .head)); exact .nil) (ih ((j + 1, mput m x.id true)) (by simp only; omega) (by simp only; omega))
  · refine sx_exit rfl ?_
    refine sx_seq ?_
    refine sx_seq ?_
    refine sx_region ?_
    refine sxo_pure rfl rfl rfl trivial ?_
    refine sxo_lenMap rfl rfl rfl (by exact .head) rfl rfl rfl rfl ?_
    refine sxo_pure rfl rfl rfl trivial ?_
    refine sxo_len rfl rfl rfl rfl rfl (by exact Reads.own (by exact .tail .head)) rfl rfl ?_
    refine sxo_pure rfl rfl rfl trivial ?_
    refine sxo_end ?_
    refine sx_cond rfl (fun h => ?_) (fun h => ?_)
    · refine sx_seq ?_
      refine sx_region ?_
      refine sxo_pure rfl rfl rfl trivial ?_
      refine sxo_end ?_
      refine sx_retL hret hro hk (.tmp rfl .nil) ⟨⟨_, rfl⟩, rfl⟩ (by (apply Take.cons; focus exact .tail .head); exact .nil)
    · refine sx_skip ?_
      refine sx_seq ?_
      refine sx_region ?_
      refine sxo_pure rfl rfl rfl trivial ?_
      refine sxo_end ?_
      refine sx_retL hret hro hk (.tmp rfl .nil) ⟨⟨_, rfl⟩, rfl⟩ (by (apply Take.cons; focus exact .tail .head); exact .nil)
theorem chokeIds_ok (K : Hp) (p0 : Option Addr) (n0 c0 : Nat) (l0 : List Rate) (p : Option Addr) (n c : Nat) (l : List Rate) (hl : l.length ≤ 64) (hv : Reads K [.vec ⟨p0, n0, c0⟩ 163 3 encR l0] ⟨p, n, c⟩ 163 3 encR l) :
    TR Tryz.prog K 259 [.o (.slice p n c)] [.vec ⟨p0, n0, c0⟩ 163 3 encR l0]
    fun v r => ∃ p' n' c', ∃ o : List Int, o.length = l.length ∧ v = .s (.o (.slice p' n' c')) ∧ r = [.vec ⟨p', n', c'⟩ 3 1 encI o, .vec ⟨p0, n0, c0⟩ 163 3 encR l0] := by
  refine tr_intro Tryz.func259 rfl rfl rfl fun cx hro hk hret => ?_
  refine sx_seq ?_
  refine sx_region ?_
  refine sxo_pure rfl rfl rfl trivial ?_
  refine sxo_end ?_
  refine sx_seq ?_
  refine sx_region ?_
  refine sxo_pure rfl rfl rfl trivial ?_
  refine sxo_end ?_
  refine sx_seq ?_
  refine sx_seq ?_
  refine sx_region ?_
  refine sxo_pure rfl rfl rfl trivial ?_
  refine sxo_len rfl rfl rfl rfl rfl (by assumption) rfl rfl ?_
  refine sxo_pure rfl rfl rfl trivial ?_
  refine sxo_end ?_
  refine sx_block ?_
  refine sx_nilVec encI 3 1 ?_
  refine sx_less (by refine .cons rfl ?_; refine .cons rfl ?_; refine .cons rfl ?_; refine .cons rfl ?_; refine .cons rfl ?_; exact .nil _) (by (apply Take.cons; focus exact .head); (apply Take.cons; focus exact .head); exact .nil) (sx_loopI (γ := Nat × Sl × List Int) (fun x => x.1 ≤ l.length ∧ x.2.2.length = x.1) (fun x => l.length - x.1) (fun x => [(0, .s (.o (.slice p n c))), (6, .s (.o (.slice p n c))), (7, .s (.o (.int .i64 l.length))), (8, .s (.o (.int .i64 x.1))), (3, .s (.o (.slice x.2.1.p x.2.1.n x.2.1.c)))]) (fun x => [.vec ⟨x.2.1.p, x.2.1.n, x.2.1.c⟩ 3 1 encI x.2.2, .vec ⟨p0, n0, c0⟩ 163 3 encR l0]) ((0, ⟨none, 0, 0⟩, [])) (by simp) ?_)
  rintro ⟨j, ⟨p1, n1, c1⟩, o⟩ ⟨hj, ho⟩ ih
  simp only at hj ho
  refine sx_seq ?_
  refine sx_region ?_
  refine sxo_pure rfl rfl rfl trivial ?_
  refine sxo_end ?_
  refine sx_seq ?_
  refine sx_cond rfl (fun h => ?_) (fun h => ?_)
  · simp at h
    refine sx_skip ?_
    refine sx_seq ?_
    refine sx_block ?_
    refine sx_seq ?_
    refine sx_region ?_
    refine sxo_indexAddr rfl rfl rfl rfl rfl rfl rfl hv.skip (by omega) rfl (fun _ _ => ?_)
    refine sxo_loadEl0 rfl rfl rfl (by exact .head) hv.skip.skip rfl (by omega) (fun _ => rfl) rfl rfl (fun x hx => ?_)
    refine sxo_alloc rfl rfl rfl rfl rfl rfl (fun _ => ?_)
    refine sxo_store rfl rfl rfl rfl (by exact .head) rfl rfl rfl rfl rfl ?_
    refine sxo_end ?_
    refine sx_region ?_
    refine sxo_pure rfl rfl rfl trivial ?_
    refine sxo_pure rfl rfl rfl trivial ?_
    refine sxo_load rfl rfl rfl (by exact .head) rfl rfl rfl rfl ?_
    refine sxo_buildSlice rfl rfl rfl rfl rfl rfl rfl rfl rfl rfl rfl rfl rfl (fun _ => ?_)
    refine sxo_append (lx := [x.id]) rfl rfl rfl rfl rfl rfl rfl rfl rfl rfl (by exact .tail (.tail (.tail .head))) (Reads.one (by exact .head) rfl rfl) (fun _ => rfl) rfl rfl rfl (by simp; omega) (fun p2 n2 c2 => ?_)
    refine sxo_pure rfl rfl rfl trivial ?_
    refine sxo_end ?_
    refine sx_inBlock ?_
    refine sx_region ?_
    refine sxo_pure rfl rfl rfl (by omega) ?_
    refine sxo_pure rfl rfl rfl trivial ?_
    refine sxo_end ?_
    refine sx_less (by refine .cons rfl ?_; refine .cons rfl ?_; refine .cons rfl ?_; refine .cons rfl ?_; refine .cons rfl ?_; exact .nil _) (by (apply Take.cons; focus exact .head); (apply Take.cons; focus exact .tail (.tail (.tail .head))); exact .nil) (ih ((j + 1, ⟨p2, n2, c2⟩, o ++ [x.id])) (⟨by simp only; omega, by simp; omega⟩) (by simp only; omega))
  · simp at h
    refine sx_exit rfl ?_
    refine sx_seq ?_
    refine sx_region ?_
    refine sxo_pure rfl rfl rfl trivial ?_
    refine sxo_call0 rfl rfl rfl rfl (by (apply Take.cons; focus exact .head); exact .nil) (fun Kc hK hB => SortInt_ok Kc p1 n1 c1 o (by omega)) rfl rfl ?_ (hH := by rintro v m rfl; (exact hh_nil))
    rintro v m rfl
    simp only [List.cons_append, List.nil_append, List.append_nil, resV]
    refine sxo_end ?_
    refine sx_seq ?_
    refine sx_region ?_
    refine sxo_pure rfl rfl rfl trivial ?_
    refine sxo_pure rfl rfl rfl trivial ?_
    refine sxo_end ?_
    refine sx_retL hret hro hk (.tmp rfl .nil) ⟨_, _, _, o.mergeSort le_, by rw [List.length_mergeSort]; omega, rfl, rfl⟩ (by (apply Take.cons; focus exact .head); (apply Take.cons; focus exact .head); exact .nil)
end Go.SX

namespace Go.SX
open Go.Proofs
attribute [local irreducible] SX SXo
theorem choose1_ok (K : Hp) (x : Rate) : TR Tryz.prog K 254 [evR x] [] fun v r => v = .s (.o (.bool (!x.wants))) ∧ r = [] := by
  refine tr_intro Tryz.func254 rfl rfl rfl fun cx hro hk hret => ?_
  refine sx_seq ?_
  refine sx_region ?_
  refine sxo_box rfl rfl rfl rfl rfl rfl (fun _ => ?_)
  refine sxo_pure rfl rfl rfl trivial ?_
  refine sxo_end ?_
  refine sx_seq ?_
  refine sx_region ?_
  refine sxo_pure rfl rfl rfl trivial ?_
  refine sxo_load rfl rfl rfl (by exact .head) rfl rfl rfl rfl ?_
  refine sxo_pure rfl rfl rfl trivial ?_
  refine sxo_pure rfl rfl rfl trivial ?_
  refine sxo_end ?_
  refine sx_retL hret hro hk (.tmp rfl .nil) ⟨rfl, rfl⟩ (by exact .nil)
theorem choose2_ok (K : Hp) (a b : Rate) : TR Tryz.prog K 256 [evR a, evR b] [] fun v r => (∃ n, v = .s (.o (.int .i64 n))) ∧ r = [] := by
  refine tr_intro Tryz.func256 rfl rfl rfl fun cx hro hk hret => ?_
  refine sx_seq ?_
  refine sx_region ?_
  refine sxo_box rfl rfl rfl rfl rfl rfl (fun _ => ?_)
  refine sxo_box rfl rfl rfl rfl rfl rfl (fun _ => ?_)
  refine sxo_pure rfl rfl rfl trivial ?_
  refine sxo_end ?_
  refine sx_seq ?_
  refine sx_drawN 1 (by kernel_rfl) [0, 1, 2, 3, 5, 6, 7, 8, 4, 9, 10, 11, 12] [(6, 4), (8, 4)] (by kernel_rfl) ?_
  refine sxo_pure rfl rfl rfl trivial ?_
  refine sxo_load rfl rfl rfl (by exact .head) rfl rfl rfl rfl ?_
  refine sxo_pure rfl rfl rfl trivial ?_
  refine sxo_load rfl rfl rfl (by exact .tail .head) rfl rfl rfl rfl ?_
  refine sxo_pure rfl rfl rfl trivial ?_
  refine sxo_loadF rfl rfl rfl (by exact .tail .head) rfl rfl rfl ?_
  refine sxo_pure rfl rfl rfl trivial ?_
  refine sxo_loadF rfl rfl rfl (by exact .head) rfl rfl rfl ?_
  refine sxo_call0 rfl rfl rfl rfl (by exact .nil) (fun Kc hK hB => Compare_ok Kc [] _ _) rfl rfl ?_ (hH := by rintro v m ⟨rfl, rfl⟩; (refine hh_chk ⟨_, _, _, (by exact .head), (by rfl)⟩ ?_; refine hh_chk ⟨_, _, _, (by exact .tail .head), (by rfl)⟩ ?_; exact hh_nil))
  rintro v m ⟨rfl, rfl⟩
  simp only [List.cons_append, List.nil_append, List.append_nil, resV]
  skip
  refine sxo_call0 rfl rfl rfl rfl (by exact .nil) (fun Kc hK hB => Compare_ok Kc [] _ _) rfl rfl ?_ (hH := by rintro v m ⟨rfl, rfl⟩; (refine hh_free rfl ?_; refine hh_free rfl ?_; exact hh_nil))
  rintro v m ⟨rfl, rfl⟩
  simp only [List.cons_append, List.nil_append, List.append_nil, resV]
  refine sxo_buildSlice rfl rfl rfl rfl rfl rfl rfl rfl rfl rfl rfl rfl rfl (fun _ => ?_)
  refine sxo_call0 rfl rfl rfl rfl .all (fun Kc hK hB => Or_ok Kc _ _ _ _ [_, _] (Reads.blk (by exact .head) rfl rfl (fun _ _ => rfl)) (by simp)) rfl rfl ?_ (hH := by rintro v m ⟨rfl, rfl⟩; (refine hh_free rfl ?_; refine hh_free rfl ?_; exact hh_nil))
  rintro v m ⟨rfl, rfl⟩
  simp only [List.cons_append, List.nil_append, List.append_nil, resV]
  refine sxo_pure rfl rfl rfl trivial ?_
  refine sxo_end ?_
  refine sx_retL hret hro hk (.tmp rfl .nil) ⟨⟨_, rfl⟩, rfl⟩ (by exact .nil)
theorem CloneRate_ok (K : Hp) (mem : List Ent) (p : Option Addr) (n c : Nat) (l : List Rate) (hv : Reads K mem ⟨p, n, c⟩ 163 3 encR l) (hl : l.length * 24 ≤ 140737488355328) : TR Tryz.prog K 253 [.o (.slice p n c)] mem
    fun v m => ∃ p' n' c', v = .s (.o (.slice p' n' c')) ∧ m = .vec ⟨p', n', c'⟩ 163 3 encR l :: mem := by
  refine tr_intro Tryz.func253 rfl rfl rfl fun cx hro hk hret => ?_
  refine sx_seq ?_
  refine sx_region ?_
  refine sxo_pure rfl rfl rfl trivial ?_
  refine sxo_end ?_
  refine sx_seq ?_
  refine sx_seq ?_
  refine sx_region ?_
  refine sxo_pure rfl rfl rfl trivial ?_
  refine sxo_eqSl rfl rfl rfl rfl rfl rfl rfl ?_
  refine sxo_end ?_
  refine sx_cond rfl (fun h => ?_) (fun h => ?_)
  · refine sx_fact (Q := l = []) (fun w hm => ?_) fun hl0 => ?_
    · rcases hv w hm with ⟨_, h4⟩ | ⟨_, _, hvv⟩
      · exact h4
      rcases hvv with ⟨_, _, _, h4⟩ | ⟨_, _, _, h1, _⟩
      · exact h4
      · have h1' : p = _ := h1
        rw [h1'] at h; cases h
    subst hl0
    have hp : p = none := by simpa using h
    refine sx_nilVec encR 163 3 ?_
    refine sx_seq ?_
    refine sx_region ?_
    refine sxo_pure rfl rfl rfl trivial ?_
    refine sxo_end ?_
    refine sx_ret hret hro hk (.tmp rfl .nil) ⟨_, _, _, rfl, rfl⟩
  · refine sx_skip ?_
    refine sx_seq ?_
    refine sx_region ?_
    refine sxo_buildSlice0 rfl rfl rfl rfl rfl rfl rfl (fun b => ?_)
    refine sxo_pure rfl rfl rfl trivial ?_
    refine sxo_recast (.vec ⟨some ⟨b, 0, none⟩, 0, 0⟩ 163 3 encR []) .head (fun _ hb => blk_vec hb rfl rfl (fun _ h => by cases h)) ?_
    refine sxo_append rfl rfl rfl rfl rfl rfl rfl rfl rfl rfl .head hv (fun _ => rfl) rfl rfl rfl (by first | simpa using hl | (simp; omega)) (fun p2 n2 c2 => ?_)
    simp only [List.nil_append]
    refine sxo_pure rfl rfl rfl trivial ?_
    refine sxo_end ?_
    refine sx_ret hret hro hk (.tmp rfl .nil) ⟨_, _, _, rfl, rfl⟩
theorem CloneByte_ok (K : Hp) (mem : List Ent) (p : Option Addr) (n c : Nat) (l : List UInt8) (hv : Reads K mem ⟨p, n, c⟩ 5 1 encB l) (hl : l.length * 1 ≤ 140737488355328) : TR Tryz.prog K 218 [.o (.slice p n c)] mem
    fun v m => ∃ p' n' c', v = .s (.o (.slice p' n' c')) ∧ m = .vec ⟨p', n', c'⟩ 5 1 encB l :: mem := by
  refine tr_intro Tryz.func218 rfl rfl rfl fun cx hro hk hret => ?_
  refine sx_seq ?_
  refine sx_region ?_
  refine sxo_pure rfl rfl rfl trivial ?_
  refine sxo_end ?_
  refine sx_seq ?_
  refine sx_seq ?_
  refine sx_region ?_
  refine sxo_pure rfl rfl rfl trivial ?_
  refine sxo_eqSl rfl rfl rfl rfl rfl rfl rfl ?_
  refine sxo_end ?_
  refine sx_cond rfl (fun h => ?_) (fun h => ?_)
  · refine sx_fact (Q := l = []) (fun w hm => ?_) fun hl0 => ?_
    · rcases hv w hm with ⟨_, h4⟩ | ⟨_, _, hvv⟩
      · exact h4
      rcases hvv with ⟨_, _, _, h4⟩ | ⟨_, _, _, h1, _⟩
      · exact h4
      · have h1' : p = _ := h1
        rw [h1'] at h; cases h
    subst hl0
    have hp : p = none := by simpa using h
    refine sx_nilVec encB 5 1 ?_
    refine sx_seq ?_
    refine sx_region ?_
    refine sxo_pure rfl rfl rfl trivial ?_
    refine sxo_end ?_
    refine sx_ret hret hro hk (.tmp rfl .nil) ⟨_, _, _, rfl, rfl⟩
  · refine sx_skip ?_
    refine sx_seq ?_
    refine sx_region ?_
    refine sxo_buildSlice0 rfl rfl rfl rfl rfl rfl rfl (fun b => ?_)
    refine sxo_pure rfl rfl rfl trivial ?_
    refine sxo_recast (.vec ⟨some ⟨b, 0, none⟩, 0, 0⟩ 5 1 encB []) .head (fun _ hb => blk_vec hb rfl rfl (fun _ h => by cases h)) ?_
    refine sxo_append rfl rfl rfl rfl rfl rfl rfl rfl rfl rfl .head hv (fun _ => rfl) rfl rfl rfl (by first | simpa using hl | (simp; omega)) (fun p2 n2 c2 => ?_)
    simp only [List.nil_append]
    refine sxo_pure rfl rfl rfl trivial ?_
    refine sxo_end ?_
    refine sx_ret hret hro hk (.tmp rfl .nil) ⟨_, _, _, rfl, rfl⟩
theorem DelRate_ok (K : Hp) (p : Option Addr) (n c : Nat) (l : List Rate) (hl : l.length ≤ 64) (hw : ∀ x ∈ l, x.wants = true) : TR Tryz.prog K 252 [.o (.slice p n c), .o (.func (.func 254) #[] #[])] [.vec ⟨p, n, c⟩ 163 3 encR l]
    fun v m => v = .s (.o (.slice p n c)) ∧ m = [.vec ⟨p, n, c⟩ 163 3 encR l] := by
  refine tr_intro Tryz.func252 rfl rfl rfl fun cx hro hk hret => ?_
  refine sx_seq ?_
  refine sx_region ?_
  refine sxo_pure rfl rfl rfl trivial ?_
  refine sxo_end ?_
  refine sx_seq ?_
  refine sx_region ?_
  refine sxo_pure rfl rfl rfl trivial ?_
  refine sxo_pure rfl rfl rfl trivial ?_
  refine sxo_call0 rfl rfl rfl rfl (by (apply Take.cons; focus exact .head); exact .nil) (fun Kc hK hB => IdxRate_ok Kc [.vec ⟨p, n, c⟩ 163 3 encR l] p n c l _ (fun x => !x.wants) (Reads.own (by exact .head)) (by omega) (Looks.of0 choose1_ok)) rfl rfl ?_ (hH := by rintro v m ⟨⟨j, rfl, hj⟩, rfl⟩; (exact hh_nil))
  rintro v m ⟨⟨j, rfl, hj⟩, rfl⟩
  simp only [List.cons_append, List.nil_append, List.append_nil, resV]
  have hj' : j = -1 := by
    rcases hj with ⟨h, _⟩ | ⟨_, _, x, h1, h2⟩
    · exact h
    · simp [hw x (List.mem_of_getElem? h1)] at h2
  subst hj'
  refine sxo_pure rfl rfl rfl trivial ?_
  refine sxo_end ?_
  refine sx_seq ?_
  refine sx_seq ?_
  refine sx_region ?_
  refine sxo_pure rfl rfl rfl trivial ?_
  refine sxo_pure rfl rfl rfl trivial ?_
  refine sxo_end ?_
  refine sx_condT rfl ?_
  refine sx_seq ?_
  refine sx_region ?_
  refine sxo_pure rfl rfl rfl trivial ?_
  refine sxo_pure rfl rfl rfl trivial ?_
  refine sxo_end ?_
  refine sx_retL hret hro hk (.tmp rfl .nil) ⟨rfl, rfl⟩ (by (apply Take.cons; focus exact .head); exact .nil)
theorem InsRate_ok (K : Hp) (p : Option Addr) (n c : Nat) (l : List Rate) (hl : l.length ≤ 64) : TR Tryz.prog K 398 [.o (.slice p n c), .o (.int .i64 0), .o (.int .i64 l.length), .o (.func (.func 256) #[] #[])] [.vec ⟨p, n, c⟩ 163 3 encR l]
    fun _ m => ∃ l' : List Rate, l'.length = l.length ∧ m = [.vec ⟨p, n, c⟩ 163 3 encR l'] := by
  refine tr_intro Tryz.func398 rfl rfl rfl fun cx hro hk hret => ?_
  refine sx_seq ?_
  refine sx_region ?_
  refine sxo_pure rfl rfl rfl trivial ?_
  refine sxo_pure rfl rfl rfl (by omega) ?_
  refine sxo_pure rfl rfl rfl trivial ?_
  refine sxo_end ?_
  refine sx_block ?_
  refine sx_less (by refine .cons rfl ?_; refine .cons rfl ?_; refine .cons rfl ?_; refine .cons rfl ?_; refine .cons rfl ?_; exact .nil _) (by (apply Take.cons; focus exact .head); exact .nil) (sx_loopI (γ := Nat × List Rate) (fun x => 1 ≤ x.1 ∧ x.2.length = l.length) (fun x => l.length - x.1) (fun x => [(0, .s (.o (.slice p n c))), (1, .s (.o (.int .i64 0))), (2, .s (.o (.int .i64 l.length))), (3, .s (.o (.func (.func 256) #[] #[]))), (8, .s (.o (.int .i64 x.1)))]) (fun x => [.vec ⟨p, n, c⟩ 163 3 encR x.2]) ((1, l)) (by simp) ?_)
  rintro ⟨i, l1⟩ ⟨hi, hl1⟩ ih
  simp only at hi hl1
  refine sx_seq ?_
  refine sx_seq ?_
  refine sx_region ?_
  refine sxo_pure rfl rfl rfl trivial ?_
  refine sxo_pure rfl rfl rfl trivial ?_
  refine sxo_pure rfl rfl rfl trivial ?_
  refine sxo_end ?_
  refine sx_cond rfl (fun h => ?_) (fun h => ?_)
  · simp at h
    refine sx_skip ?_
    refine sx_seq ?_
    refine sx_block ?_
    refine sx_seq ?_
    refine sx_region ?_
    refine sxo_pure rfl rfl rfl trivial ?_
    refine sxo_pure rfl rfl rfl trivial ?_
    refine sxo_end ?_
    refine sx_block ?_
    refine sx_less (by refine .cons rfl ?_; refine .cons rfl ?_; refine .cons rfl ?_; refine .cons rfl ?_; refine .cons rfl ?_; refine .cons rfl ?_; exact .nil _) (by (apply Take.cons; focus exact .head); exact .nil) (sx_loopI (γ := Int × List Rate) (fun x => 0 ≤ x.1 ∧ x.1 ≤ i ∧ x.2.length = l.length) (fun x => x.1.toNat) (fun x => [(0, .s (.o (.slice p n c))), (1, .s (.o (.int .i64 0))), (2, .s (.o (.int .i64 l.length))), (3, .s (.o (.func (.func 256) #[] #[]))), (8, .s (.o (.int .i64 i))), (9, .s (.o (.int .i64 x.1)))]) (fun x => [.vec ⟨p, n, c⟩ 163 3 encR x.2]) (((i : Int), l1)) (⟨by simp, Int.le_refl _, hl1⟩) ?_)
    rintro ⟨j, l2⟩ ⟨hj0, hj, hl2⟩ ih2
    simp only at hj0 hj hl2
    refine sx_seq ?_
    refine sx_seq ?_
    refine sx_drawN 4 (by kernel_rfl) [0, 1, 2, 3, 4, 5, 6, 7, 8, 9, 10, 11, 12, 13, 14, 15, 16] [] (by kernel_rfl) ?_
    refine sxo_pure rfl rfl rfl trivial ?_
    refine sxo_pure rfl rfl rfl trivial ?_
    refine sxo_pure rfl rfl rfl trivial ?_
    refine sxo_pure rfl rfl rfl trivial ?_
    refine sxo_split (t := 21) rfl (fun h3 => ?_) (fun h3 => ?_)
    · simp at h3
      refine sxo_pure rfl rfl rfl trivial ?_
      refine sxo_pure rfl rfl rfl trivial ?_
      refine sxo_pure rfl rfl rfl trivial ?_
      refine sxo_indexAddr rfl rfl rfl rfl rfl rfl rfl (Reads.own (by exact .head)) (by simp only; omega) rfl (fun _ _ => ?_)
      refine sxo_loadEl0 rfl rfl rfl (by exact .head) (Reads.own (by exact .tail .head)) rfl (by simp only; omega) (fun _ => rfl) rfl rfl (fun x1 hx1 => ?_)
      refine sxo_pure rfl rfl rfl trivial ?_
      refine sxo_pure rfl rfl rfl trivial ?_
      refine sxo_pure rfl rfl rfl (by omega) ?_
      refine sxo_indexAddr rfl rfl rfl rfl rfl rfl rfl (Reads.own (by exact .tail .head)) (by simp only; omega) rfl (fun _ _ => ?_)
      refine sxo_loadEl0 rfl rfl rfl (by exact .head) (Reads.own (by exact .tail (.tail .head))) rfl (by simp only; omega) (fun _ => rfl) rfl rfl (fun x2 hx2 => ?_)
      skip
      refine sxo_call0 rfl rfl rfl rfl (by exact .nil) (fun Kc hK hB => choose2_ok Kc _ _) rfl rfl ?_ (hH := by rintro v m ⟨⟨q, rfl⟩, rfl⟩; (exact hh_nil))
      rintro v m ⟨⟨q, rfl⟩, rfl⟩
      simp only [List.cons_append, List.nil_append, List.append_nil, resV]
      refine sxo_pure rfl rfl rfl trivial ?_
      refine sxo_pure rfl rfl rfl trivial ?_
      refine sxo_end ?_
      refine sx_cond rfl (fun h4 => ?_) (fun h4 => ?_)
      · refine sx_skip ?_
        refine sx_seq ?_
        refine sx_block ?_
        refine sx_drawN 6 (by kernel_rfl) [0, 1, 2, 3, 4, 5, 6, 7, 8, 9, 10, 11, 12, 13, 14, 15, 16, 17] [] (by kernel_rfl) ?_
        refine sxo_pure rfl rfl rfl trivial ?_
        refine sxo_pure rfl rfl rfl trivial ?_
        refine sxo_pure rfl rfl rfl trivial ?_
        refine sxo_pure rfl rfl rfl trivial ?_
        refine sxo_pure rfl rfl rfl (by omega) ?_
        refine sxo_pure rfl rfl rfl trivial ?_
        refine sxo_pure rfl rfl rfl trivial ?_
        refine sxo_pure rfl rfl rfl (by omega) ?_
        refine sxo_indexAddr rfl rfl rfl rfl rfl rfl rfl (Reads.own (by exact .tail (.tail .head))) (by omega) rfl (fun _ _ => ?_)
        refine sxo_loadEl0 rfl rfl rfl (by exact .head) (Reads.own (by exact .tail (.tail (.tail .head)))) rfl (by omega) (fun _ => rfl) rfl rfl (fun y1 hy1 => ?_)
        refine sxo_pure rfl rfl rfl trivial ?_
        refine sxo_pure rfl rfl rfl trivial ?_
        refine sxo_indexAddr rfl rfl rfl rfl rfl rfl rfl (Reads.own (by exact .tail (.tail (.tail .head)))) (by omega) rfl (fun _ _ => ?_)
        refine sxo_loadEl0 rfl rfl rfl (by exact .head) (Reads.own (by exact .tail (.tail (.tail (.tail .head))))) rfl (by omega) (fun _ => rfl) rfl rfl (fun y2 hy2 => ?_)
        skip
        refine sxo_indexAddr rfl rfl rfl rfl rfl rfl rfl (Reads.own (by exact .tail (.tail (.tail (.tail .head))))) (by omega) rfl (fun _ _ => ?_)
        skip
        refine sxo_storeEl (fo := 0) (fun _ => y1) rfl rfl rfl rfl (by exact .head) (by exact .tail (.tail (.tail (.tail (.tail .head))))) rfl (by omega) (fun _ => rfl) rfl rfl rfl (fun z1 hz1 => ?_)
        skip
        refine sxo_indexAddr rfl rfl rfl rfl rfl rfl rfl (Reads.own (by exact .head)) (by simp; omega) rfl (fun _ _ => ?_)
        skip
        refine sxo_storeEl (fo := 0) (fun _ => y2) rfl rfl rfl rfl (by exact .head) (by exact .tail .head) rfl (by simp; omega) (fun _ => rfl) rfl rfl rfl (fun z2 hz2 => ?_)
        refine sxo_end ?_
        refine sx_inBlock ?_
        refine sx_region ?_
        refine sxo_pure rfl rfl rfl trivial ?_
        refine sxo_pure rfl rfl rfl (by omega) ?_
        refine sxo_pure rfl rfl rfl trivial ?_
        refine sxo_end ?_
        refine sx_less (by refine .cons rfl ?_; refine .cons rfl ?_; refine .cons rfl ?_; refine .cons rfl ?_; refine .cons rfl ?_; refine .cons rfl ?_; exact .nil _) (by (apply Take.cons; focus exact .head); exact .nil) (ih2 (j - 1, (l2.set j.toNat y1).set (j - 1).toNat y2) ⟨by simp only; omega, by simp only; omega, by simp [hl2]⟩ (by simp only; omega))
      · refine sx_exit rfl ?_
        refine sx_inBlock ?_
        refine sx_region ?_
        refine sxo_pure rfl rfl rfl trivial ?_
        refine sxo_pure rfl rfl rfl (by omega) ?_
        refine sxo_pure rfl rfl rfl trivial ?_
        refine sxo_end ?_
        refine sx_less (by refine .cons rfl ?_; refine .cons rfl ?_; refine .cons rfl ?_; refine .cons rfl ?_; refine .cons rfl ?_; exact .nil _) (by (apply Take.cons; focus exact .tail (.tail .head)); exact .nil) (ih ((i + 1, l2)) (⟨by simp only; omega, hl2⟩) (by simp only; omega))
    · refine sxo_pass rfl rfl rfl ?_
      refine sxo_pass rfl rfl rfl ?_
      refine sxo_pass rfl rfl rfl ?_
      refine sxo_pass rfl rfl rfl ?_
      refine sxo_pass rfl rfl rfl ?_
      refine sxo_pass rfl rfl rfl ?_
      refine sxo_pass rfl rfl rfl ?_
      refine sxo_pass rfl rfl rfl ?_
      refine sxo_pass rfl rfl rfl ?_
      refine sxo_pass rfl rfl rfl ?_
      refine sxo_pass rfl rfl rfl ?_
      refine sxo_pass rfl rfl rfl ?_
      refine sxo_pure rfl rfl rfl trivial ?_
      refine sxo_end ?_
      refine sx_condF rfl ?_
      refine sx_exit rfl ?_
      refine sx_inBlock ?_
      refine sx_region ?_
      refine sxo_pure rfl rfl rfl trivial ?_
      refine sxo_pure rfl rfl rfl (by omega) ?_
      refine sxo_pure rfl rfl rfl trivial ?_
      refine sxo_end ?_
      refine sx_less (by refine .cons rfl ?_; refine .cons rfl ?_; refine .cons rfl ?_; refine .cons rfl ?_; refine .cons rfl ?_; exact .nil _) (by (apply Take.cons; focus exact .head); exact .nil) (ih ((i + 1, l2)) (⟨by simp only; omega, hl2⟩) (by simp only; omega))
  · refine sx_exit rfl ?_
    refine sx_endL hret hro hk .nil ⟨l1, hl1, rfl⟩ (by (apply Take.cons; focus exact .head); exact .nil)
end Go.SX
