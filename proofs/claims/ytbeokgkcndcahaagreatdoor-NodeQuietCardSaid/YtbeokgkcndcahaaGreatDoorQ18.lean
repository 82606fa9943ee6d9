/-
  journal: between the steps of put.
  journal: put of no records.
  journal: Open on a disk that has no such file, Compact to nothing.
-/
import Derived.Test.YtbeokgkcndcahaaGreatDoorQ17
set_option linter.all false
namespace Go.SX
open Go.Proofs
attribute [local irreducible] SX SXo
set_option maxRecDepth 20000
set_option maxHeartbeats 4000000
@[reducible] def dotNew : ByteArray := ⟨#[46, 110, 101, 119]⟩
/-- What memory holds between the steps of put. -/
def putS (bj jb b5 b6 b9 bd : Nat) (name fresh : ByteArray) (num sz ct : Int) (brk : Bool) (room : Int) (bm : Nat) (st wr : Sl) (sts : List Nat) (names : List (ByteArray × Option Nat)) (ws : Sl) (lw : List UInt8) (M0 : List Ent) : Nat → List Ent → Prop
  | 0, m => m = .blk bd 62 (diskCh room bm st wr) :: .map bm ekStr evPO names :: .blk b9 38 [.c (Sl.v ws)] :: .vec ws 5 1 encB lw :: .blk b6 38 [.c (.slice none 0 0)] :: .blk b5 9 [.c (.string fresh)] :: .blk bj 125 [.c (.pointer (some ⟨jb, 0, none⟩))] :: .blk jb 239 (jCh bd name num sz ct brk) :: .vec st 58 1 encMp sts :: .vec wr 370 3 encLate [] :: M0
  | 1, m => ∃ bm' st' sts' f, sts'.length = sts.length + 1 ∧ m = .blk bd 62 (diskCh room bm' st' wr) :: .map bm' ekStr evPO (mput names fresh (some f)) :: .blk b9 38 [.c (Sl.v ws)] :: .vec ws 5 1 encB lw :: .blk b6 38 [.c (.slice none 0 0)] :: .blk b5 9 [.c (.string fresh)] :: .blk bj 125 [.c (.pointer (some ⟨jb, 0, none⟩))] :: .blk jb 239 (jCh bd name num sz ct brk) :: .vec st' 58 1 encMp sts' :: .vec wr 370 3 encLate [] :: .blk f 326 (fileCh ⟨none, 0, 0⟩ ⟨none, 0, 0⟩) :: M0
  | 2, m => ∃ bm' st' sts' f, ∃ (a wr' b : Sl), sts'.length = sts.length + 1 ∧ a.n = lw.length ∧ m = .blk bd 62 (diskCh room bm' st' wr') :: .map bm' ekStr evPO (mput names fresh (some f)) :: .blk b9 38 [.c (Sl.v ws)] :: .vec ws 5 1 encB lw :: .blk b6 38 [.c (.slice none 0 0)] :: .blk b5 9 [.c (.string fresh)] :: .blk bj 125 [.c (.pointer (some ⟨jb, 0, none⟩))] :: .blk jb 239 (jCh bd name num sz ct brk) :: .vec st' 58 1 encMp sts' :: .vec wr' 370 3 encLate [⟨some f, 0, b⟩] :: .blk f 326 (fileCh a ⟨none, 0, 0⟩) :: M0
  | 3, m => ∃ bm' st' sts' f, ∃ (a wr' : Sl), sts'.length = sts.length + 1 ∧ a.n = lw.length ∧ m = .blk bd 62 (diskCh room bm' st' wr') :: .map bm' ekStr evPO (mput names fresh (some f)) :: .blk b9 38 [.c (Sl.v ws)] :: .vec ws 5 1 encB lw :: .blk b6 38 [.c (.slice none 0 0)] :: .blk b5 9 [.c (.string fresh)] :: .blk bj 125 [.c (.pointer (some ⟨jb, 0, none⟩))] :: .blk jb 239 (jCh bd name num sz ct brk) :: .vec st' 58 1 encMp sts' :: .vec wr' 370 3 encLate [] :: .blk f 326 (fileCh a a) :: M0
  | 4, m => ∃ bm' st' sts' f, ∃ (a wr' : Sl), sts'.length = sts.length + 2 ∧ a.n = lw.length ∧ m = .blk bd 62 (diskCh room bm' st' wr') :: .map bm' ekStr evPO (mput (mdel (mput names fresh (some f)) fresh) name (some f)) :: .blk b9 38 [.c (Sl.v ws)] :: .vec ws 5 1 encB lw :: .blk b6 38 [.c (.slice none 0 0)] :: .blk b5 9 [.c (.string fresh)] :: .blk bj 125 [.c (.pointer (some ⟨jb, 0, none⟩))] :: .blk jb 239 (jCh bd name num sz ct brk) :: .vec st' 58 1 encMp sts' :: .vec wr' 370 3 encLate [] :: .blk f 326 (fileCh a a) :: M0
  | 5, m => ∃ bm' st' f, ∃ (a wr' : Sl), a.n = lw.length ∧ m = .blk bd 62 (diskCh room bm' st' wr') :: .map bm' ekStr evPO (mput (mdel (mput names fresh (some f)) fresh) name (some f)) :: .blk b9 38 [.c (Sl.v ws)] :: .vec ws 5 1 encB lw :: .blk b6 38 [.c (.slice none 0 0)] :: .blk b5 9 [.c (.string fresh)] :: .blk bj 125 [.c (.pointer (some ⟨jb, 0, none⟩))] :: .blk jb 239 (jCh bd name num sz ct brk) :: .vec st' 58 1 encMp [bm'] :: .vec wr' 370 3 encLate [] :: .blk f 326 (fileCh a a) :: M0
  | 6, m => ∃ bm' st' f, ∃ (a wr' : Sl), a.n = lw.length ∧ m = .blk bd 62 (diskCh room bm' st' wr') :: .map bm' ekStr evPO (mput (mdel (mput names fresh (some f)) fresh) name (some f)) :: .blk b9 38 [.c (Sl.v ws)] :: .vec ws 5 1 encB lw :: .blk b6 38 [.c (.slice none 0 0)] :: .blk b5 9 [.c (.string fresh)] :: .blk bj 125 [.c (.pointer (some ⟨jb, 0, none⟩))] :: .blk jb 239 (jCh bd name 1 0 0 brk) :: .vec st' 58 1 encMp [bm'] :: .vec wr' 370 3 encLate [] :: .blk f 326 (fileCh a a) :: M0
  | _, _ => False
@[reducible] def putL (bj b5 b6 b9 bd : Nat) : List Value := [.func (.func 227) #[] #[.pointer (some ⟨bj, 0, none⟩), .pointer (some ⟨b5, 0, none⟩)], .func (.func 228) #[] #[.pointer (some ⟨bj, 0, none⟩), .pointer (some ⟨b5, 0, none⟩), .pointer (some ⟨b9, 0, none⟩)], .func (.func 229) #[] #[.pointer (some ⟨bj, 0, none⟩), .pointer (some ⟨b5, 0, none⟩)], .func (.func 231) #[] #[.pointer (some ⟨bj, 0, none⟩), .pointer (some ⟨b5, 0, none⟩)], .func (.func 58) #[.pointer (some ⟨bd, 0, none⟩)] #[], .func (.func 233) #[] #[.pointer (some ⟨b6, 0, none⟩), .pointer (some ⟨bj, 0, none⟩)]]
theorem mget_mput {κ ν : Type} [DecidableEq κ] (m : List (κ × ν)) (k : κ) (v : ν) : mget (mput m k v) k = some v := by
  induction m with
  | nil => simp [mput, mget]
  | cons x m ih =>
    obtain ⟨a, b⟩ := x
    by_cases h : a = k
    · simp [mput, mget, h]
    · simp [mput, mget, h, ih]
theorem TRV.drop {P : Program} {K : Hp} {Y : Value} {args : List SV1} {mem : List Ent} {Q Q' : SV → List Ent → Prop} (h : TRV P K Y args mem Q) (hq : ∀ v m, Q v m → ∃ m' r', Take m m' r' ∧ Q' v m') : TRV P K Y args mem Q' := fun w s =>
  (h w s).mono fun u w' ⟨v, m, e, q, hm, ho⟩ => by
    obtain ⟨m', r', t, q'⟩ := hq v m q
    obtain ⟨h0, d, s1, s2, o⟩ := hm
    obtain ⟨k1, _, _, t1, _, hM, _⟩ := OSat.take t o
    exact ⟨v, m', e, q', ⟨k1, d.mono (Sub.refl _) t1, s1, t1.trans s2, hM⟩, ho⟩
theorem TRV.frameD {P : Program} {K : Hp} {Y : Value} {args : List SV1} {mem M r : List Ent} {Q Q' : SV → List Ent → Prop} (t : Take mem M r) (h : ∀ Kc, Sub K Kc → TRV P Kc Y args M Q) (hq : ∀ v m1, Q v m1 → ∃ m' r', Take (m1 ++ r) m' r' ∧ Q' v m') : TRV P K Y args mem Q' :=
  TRV.drop (TRV.frameQ (Q' := fun v m => ∃ m1, Q v m1 ∧ m = m1 ++ r) t h fun v m1 q => ⟨_, .refl _, m1, q, rfl⟩) fun v m ⟨m1, q, e⟩ => by
    subst e; exact hq v m1 q
theorem putS_step (K : Hp) (bj jb b5 b6 b9 bd : Nat) (name fresh : ByteArray) (num sz ct : Int) (brk : Bool) (room : Int) (bm : Nat) (st wr : Sl) (sts : List Nat) (names : List (ByteArray × Option Nat)) (ws : Sl) (lw : List UInt8) (M0 : List Ent)
    (hg1 : goodS name = true) (hg2 : goodS fresh = true) (hroom : 201000 ≤ room) (hs : sts.length ≤ 100) (hn : names.length ≤ 100) (hno : mget names fresh = none) (hlw : lw.length = 32)
    (hf : ∀ x ∈ names, ∃ g s1 s2' r, x.2 = some g ∧ Pick M0 (.blk g 326 (fileCh s1 s2')) r ∧ s1.n ≤ 1000) (i : Nat) (Y : Value) (m : List Ent) (hY : (putL bj b5 b6 b9 bd)[i]? = some Y) (hm : putS bj jb b5 b6 b9 bd name fresh num sz ct brk room bm st wr sts names ws lw M0 i m) :
    TRV Tryz.prog K Y [] m fun v m' => v = .s (.o (.int .i64 0)) ∧ putS bj jb b5 b6 b9 bd name fresh num sz ct brk room bm st wr sts names ws lw M0 (i + 1) m' := by
  match i, hY, hm with
  | 0, hY, hm =>
    simp only [putL, List.getElem?_cons_zero, Option.some.injEq] at hY
    subst hY
    simp only [putS] at hm
    subst hm
    refine TRV.frameQ (by (apply Take.cons; focus exact .tail (.tail (.tail (.tail (.tail (.tail .head)))))); (apply Take.cons; focus exact .tail (.tail (.tail (.tail (.tail (.tail .head)))))); (apply Take.cons; focus exact .tail (.tail (.tail (.tail (.tail .head))))); (apply Take.cons; focus exact .head); (apply Take.cons; focus exact .head); (apply Take.cons; focus exact .tail (.tail (.tail .head))); exact .nil) (fun Kc _ => TR.val (put2_ok Kc bj jb b5 bd name fresh num sz ct brk room bm st wr sts names hg2 (by omega) (by omega) hno) rfl) ?_
    rintro v m1 ⟨b', st', sts', f, rfl, hst, rfl⟩
    refine ⟨_, Take.permTo ?_, rfl, b', st', sts', f, hst, rfl⟩
    simp only [List.cons_append, List.nil_append]
    exact (by (apply Take.cons; focus exact .tail (.tail (.tail .head))); (apply Take.cons; focus exact .tail (.tail (.tail .head))); (apply Take.cons; focus exact .tail (.tail (.tail (.tail (.tail .head))))); (apply Take.cons; focus exact .tail (.tail (.tail (.tail (.tail .head))))); (apply Take.cons; focus exact .tail (.tail (.tail (.tail (.tail .head))))); (apply Take.cons; focus exact .tail (.tail .head)); (apply Take.cons; focus exact .head); (apply Take.cons; focus exact .head); (apply Take.cons; focus exact .head); (apply Take.cons; focus exact .tail .head); exact .all)
  | 1, hY, hm =>
    simp only [putL, List.getElem?_cons_zero, List.getElem?_cons_succ, Option.some.injEq] at hY
    subst hY
    simp only [putS] at hm
    obtain ⟨bm', st', sts', f, hst, rfl⟩ := hm
    have hn1 : (mput names fresh (some f)).length ≤ 200 := by have := mput_length names fresh (some f); split at this <;> omega
    have hf1 : ∀ x ∈ mput names fresh (some f), ∃ g s1 s2' r, x.2 = some g ∧ Pick (.blk f 326 (fileCh ⟨none, 0, 0⟩ ⟨none, 0, 0⟩) :: M0) (.blk g 326 (fileCh s1 s2')) r ∧ s1.n ≤ 1000 := by
      intro x hx
      rcases mput_mem hx with h | rfl
      · obtain ⟨g, s1, s2', r, e1, e2, e3⟩ := hf x h
        exact ⟨g, s1, s2', _, e1, .tail e2, e3⟩
      · exact ⟨f, _, _, _, rfl, .head, by simp⟩
    refine TRV.frameQ (by (apply Take.cons; focus exact .tail (.tail (.tail (.tail (.tail (.tail .head)))))); (apply Take.cons; focus exact .tail (.tail (.tail (.tail (.tail (.tail .head)))))); (apply Take.cons; focus exact .tail (.tail (.tail (.tail (.tail .head))))); (apply Take.cons; focus exact .tail (.tail .head)); (apply Take.cons; focus exact .head); (apply Take.cons; focus exact .head); (apply Take.cons; focus exact .tail (.tail (.tail .head))); (apply Take.cons; focus exact .head); (apply Take.cons; focus exact .tail (.tail .head)); apply Take.skip; apply Take.skip; exact .all) (fun Kc _ => TR.val (put3_ok Kc bj jb b5 b9 bd name fresh num sz ct brk room bm' st' wr (mput names fresh (some f)) [] f ⟨none, 0, 0⟩ M0 ws lw hg2 hroom (by simp) (by omega) hn1 (mget_mput names fresh _) hf1) rfl) ?_
    rintro v m1 ⟨a, wr', b, ha, rfl, rfl⟩
    refine ⟨_, perm_mid.trans (Take.permTo ?_), rfl, bm', st', sts', f, a, wr', b, hst, ha, rfl⟩
    simp only [List.cons_append, List.nil_append]
    exact (by (apply Take.cons; focus exact .tail (.tail (.tail (.tail .head)))); (apply Take.cons; focus exact .tail (.tail (.tail (.tail .head)))); (apply Take.cons; focus exact .tail (.tail (.tail .head))); (apply Take.cons; focus exact .tail (.tail (.tail (.tail .head)))); (apply Take.cons; focus exact .tail (.tail (.tail (.tail (.tail .head))))); (apply Take.cons; focus exact .tail (.tail .head)); (apply Take.cons; focus exact .head); (apply Take.cons; focus exact .head); (apply Take.cons; focus exact .tail (.tail .head)); exact .all)
  | 2, hY, hm =>
    simp only [putL, List.getElem?_cons_zero, List.getElem?_cons_succ, Option.some.injEq] at hY
    subst hY
    simp only [putS] at hm
    obtain ⟨bm', st', sts', f, a, wr', b, hst, ha, rfl⟩ := hm
    refine TRV.frameQ (by (apply Take.cons; focus exact .tail (.tail (.tail (.tail (.tail (.tail .head)))))); (apply Take.cons; focus exact .tail (.tail (.tail (.tail (.tail (.tail .head)))))); (apply Take.cons; focus exact .tail (.tail (.tail (.tail (.tail .head))))); (apply Take.cons; focus exact .head); (apply Take.cons; focus exact .head); (apply Take.cons; focus exact .tail (.tail (.tail (.tail .head)))); (apply Take.cons; focus exact .tail (.tail (.tail (.tail .head)))); exact .nil) (fun Kc _ => TR.val (put4_ok Kc bj jb b5 bd name fresh num sz ct brk room bm' st' wr' (mput names fresh (some f)) ⟨some f, 0, b⟩ f a ⟨none, 0, 0⟩ hg2 (mget_mput names fresh _) rfl) rfl) ?_
    rintro v m1 ⟨rfl, rfl⟩
    refine ⟨_, Take.permTo ?_, rfl, bm', st', sts', f, a, ⟨wr'.p, 0, wr'.c⟩, hst, ha, rfl⟩
    simp only [List.cons_append, List.nil_append]
    exact (by (apply Take.cons; focus exact .tail (.tail (.tail .head))); (apply Take.cons; focus exact .tail (.tail (.tail .head))); (apply Take.cons; focus exact .tail (.tail (.tail (.tail (.tail .head))))); (apply Take.cons; focus exact .tail (.tail (.tail (.tail (.tail .head))))); (apply Take.cons; focus exact .tail (.tail (.tail (.tail (.tail .head))))); (apply Take.cons; focus exact .tail (.tail .head)); (apply Take.cons; focus exact .head); (apply Take.cons; focus exact .head); (apply Take.cons; focus exact .tail (.tail .head)); exact .all)
  | 3, hY, hm =>
    simp only [putL, List.getElem?_cons_zero, List.getElem?_cons_succ, Option.some.injEq] at hY
    subst hY
    simp only [putS] at hm
    obtain ⟨bm', st', sts', f, a, wr', hst, ha, rfl⟩ := hm
    refine TRV.frameQ (by (apply Take.cons; focus exact .tail (.tail (.tail (.tail (.tail (.tail .head)))))); (apply Take.cons; focus exact .tail (.tail (.tail (.tail (.tail (.tail .head)))))); (apply Take.cons; focus exact .tail (.tail (.tail (.tail (.tail .head))))); (apply Take.cons; focus exact .head); (apply Take.cons; focus exact .head); (apply Take.cons; focus exact .tail (.tail (.tail .head))); exact .nil) (fun Kc _ => TR.val (put5_ok Kc bj jb b5 bd name fresh num sz ct brk room bm' st' wr' sts' (mput names fresh (some f)) f hg2 hg1 (by omega) (mget_mput names fresh _)) rfl) ?_
    rintro v m1 ⟨b'', st'', sts'', rfl, hst2, rfl⟩
    refine ⟨_, Take.permTo ?_, rfl, b'', st'', sts'', f, a, wr', by omega, ha, rfl⟩
    simp only [List.cons_append, List.nil_append]
    exact (by (apply Take.cons; focus exact .tail (.tail (.tail .head))); (apply Take.cons; focus exact .tail (.tail (.tail .head))); (apply Take.cons; focus exact .tail (.tail (.tail (.tail .head)))); (apply Take.cons; focus exact .tail (.tail (.tail (.tail .head)))); (apply Take.cons; focus exact .tail (.tail (.tail (.tail .head)))); (apply Take.cons; focus exact .tail (.tail .head)); exact .all)
  | 4, hY, hm =>
    simp only [putL, List.getElem?_cons_zero, List.getElem?_cons_succ, Option.some.injEq] at hY
    subst hY
    simp only [putS] at hm
    obtain ⟨bm', st', sts', f, a, wr', hst, ha, rfl⟩ := hm
    refine TRV.frameD (.cons .head .nil) (fun Kc _ => TR.val (SyncNames_ok Kc bd room bm' st' wr') rfl) ?_
    · rintro v m1 ⟨st'', rfl, rfl⟩
      refine ⟨_, [.vec st' 58 1 encMp sts'], ?_, rfl, bm', st'', f, a, wr', ha, rfl⟩
      simp only [List.cons_append, List.nil_append]
      refine .cons (by exact .head) (.cons (by exact .tail .head) (.cons (by exact .tail .head) (.cons (by exact .tail .head) (.cons (by exact .tail .head) (.cons (by exact .tail .head) (.cons (by exact .tail .head) (.cons (by exact .tail .head) (.cons (by exact .head) (.cons (by exact .tail .head) (.cons (by exact .tail .head) (.skip .all)))))))))))
  | 5, hY, hm =>
    simp only [putL, List.getElem?_cons_zero, List.getElem?_cons_succ, Option.some.injEq] at hY
    subst hY
    simp only [putS] at hm
    obtain ⟨bm', st', f, a, wr', ha, rfl⟩ := hm
    refine TRV.frameQ (by (apply Take.cons; focus exact .tail (.tail (.tail (.tail .head)))); (apply Take.cons; focus exact .tail (.tail (.tail (.tail (.tail .head))))); (apply Take.cons; focus exact .tail (.tail (.tail (.tail (.tail .head))))); exact .nil) (fun Kc _ => TR.val (put6_ok Kc bj jb b6 bd name num sz ct brk) rfl) ?_
    rintro v m1 ⟨rfl, rfl⟩
    refine ⟨_, Take.permTo ?_, rfl, bm', st', f, a, wr', ha, rfl⟩
    simp only [List.cons_append, List.nil_append]
    exact (by (apply Take.cons; focus exact .tail (.tail (.tail .head))); (apply Take.cons; focus exact .tail (.tail (.tail .head))); (apply Take.cons; focus exact .tail (.tail (.tail .head))); (apply Take.cons; focus exact .tail (.tail (.tail .head))); (apply Take.cons; focus exact .head); (apply Take.cons; focus exact .tail (.tail .head)); exact .all)
  | n + 6, hY, hm => simp [putL] at hY
end Go.SX

namespace Go.SX
open Go.Proofs
attribute [local irreducible] SX SXo
set_option maxRecDepth 20000
set_option maxHeartbeats 4000000
/-- A function value. -/
structure FnV where
  f : Fn
  a : Array Value
  b : Array Value
def FnV.val (x : FnV) : Value := .func x.f x.a x.b
theorem vec_map {α β : Type} {s : Sl} {T : TypeId} {wd : Nat} {enc : β → List Ch} {g : α → β} {l : List α} {h : Hp} (v : VecAt s T wd (fun x => enc (g x)) l h) : VecAt s T wd enc (l.map g) h := by
  rcases v with ⟨h1, h2, h3, rfl⟩ | ⟨b, o, cs, h1, h2, h3, h4, h5, h6, h7⟩
  · exact .inl ⟨h1, h2, h3, rfl⟩
  · refine .inr ⟨b, o, cs, h1, by rw [List.length_map]; exact h2, h3, h4, h5, fun x hx => ?_, fun i x hx => ?_⟩
    · obtain ⟨y, hy, rfl⟩ := List.mem_map.1 hx; exact h6 y hy
    · rw [List.getElem?_map, Option.map_eq_some_iff] at hx
      obtain ⟨y, hy, rfl⟩ := hx
      exact h7 i y hy
section
variable (K : Hp) (jb bd : Nat) (name : ByteArray) (num sz ct : Int) (brk : Bool) (room : Int) (bm : Nat) (st wr : Sl) (sts : List Nat) (names : List (ByteArray × Option Nat)) (M0 : List Ent)
theorem put_ok (hg1 : goodS name = true) (hg2 : goodS (name ++ dotNew) = true) (hroom : 201000 ≤ room) (hs : sts.length ≤ 100) (hn : names.length ≤ 100) (hno : mget names (name ++ dotNew) = none)
    (hf : ∀ x ∈ names, ∃ g s1 s2' r, x.2 = some g ∧ Pick M0 (.blk g 326 (fileCh s1 s2')) r ∧ s1.n ≤ 1000) :
    TR Tryz.prog K 125 [evPtr jb, .o (.slice none 0 0)] (.blk jb 239 (jCh bd name num sz ct brk) :: .blk bd 62 (diskCh room bm st wr) :: .map bm ekStr evPO names :: .vec st 58 1 encMp sts :: .vec wr 370 3 encLate [] :: M0)
    fun v r => ∃ bm' st' wr' f a, a.n = 32 ∧ v = .s (.o (.int .i64 0)) ∧ r = .blk jb 239 (jCh bd name 1 0 0 brk) :: .blk bd 62 (diskCh room bm' st' wr') :: .map bm' ekStr evPO (mput (mdel (mput names (name ++ dotNew) (some f)) (name ++ dotNew)) name (some f)) ::
      .vec st' 58 1 encMp [bm'] :: .vec wr' 370 3 encLate [] :: .blk f 326 (fileCh a a) :: M0 := by
  have hsz : name.size ≤ 80 := by
    simp only [goodS, Bool.and_eq_true, decide_eq_true_eq] at hg1; exact hg1.2.1
  refine tr_intro Tryz.func125 rfl rfl rfl fun cx hro hk hret => ?_
  refine sx_seq ?_
  refine sx_region ?_
  refine sxo_box rfl rfl rfl rfl rfl rfl (fun _ => ?_)
  refine sxo_pure rfl rfl rfl trivial ?_
  refine sxo_end ?_
  refine sx_seq ?_
  refine sx_region ?_
  refine sxo_load rfl rfl rfl (by exact .head) rfl rfl rfl rfl ?_
  refine sxo_pure rfl rfl rfl trivial ?_
  refine sxo_pure rfl rfl rfl trivial ?_
  refine sxo_load rfl rfl rfl (by exact .tail .head) rfl rfl rfl rfl ?_
  refine sxo_pure rfl rfl rfl (by show name.size + 4 ≤ 9223372036854775807; omega) ?_
  refine sxo_alloc rfl rfl rfl rfl rfl rfl (fun _ => ?_)
  refine sxo_store rfl rfl rfl rfl (by exact .head) rfl rfl rfl rfl rfl ?_
  refine sxo_end ?_
  refine sx_seq ?_
  refine sx_region ?_
  refine sxo_alloc rfl rfl rfl rfl rfl rfl (fun _ => ?_)
  refine sxo_end ?_
  refine sx_seq ?_
  refine sx_seq ?_
  refine sx_region ?_
  refine sxo_pure rfl rfl rfl trivial ?_
  refine sxo_lenV rfl rfl rfl rfl rfl rfl rfl ?_
  refine sxo_pure rfl rfl rfl trivial ?_
  refine sxo_end ?_
  refine sx_block ?_
  rename_i bj b5 b6
  refine sx_less (by refine .cons rfl ?_; refine .cons rfl ?_; refine .cons rfl ?_; refine .cons rfl ?_; refine .cons rfl ?_; exact .nil _) (by exact .all) (sx_loopI (γ := Unit) (fun _ => True) (fun _ => 0) (fun _ => [(2, .s (evPtr bj)), (5, .s (evPtr b5)), (6, .s (evPtr b6)), (19, .s (.o (.int .i64 (0 : Nat)))), (20, .s (.o (.int .i64 0)))]) (fun _ => .blk b6 38 [.c (.slice none 0 0)] :: .blk b5 9 [.c (.string (name ++ dotNew))] :: .blk bj 125 [.c (.pointer (some ⟨jb, 0, none⟩))] :: .blk jb 239 (jCh bd name num sz ct brk) :: .blk bd 62 (diskCh room bm st wr) :: .map bm ekStr evPO names :: .vec st 58 1 encMp sts :: .vec wr 370 3 encLate [] :: M0) (()) (trivial) ?_)
  rintro _ _ _
  refine sx_seq ?_
  refine sx_region ?_
  refine sxo_pure rfl rfl rfl trivial ?_
  refine sxo_end ?_
  refine sx_seq ?_
  refine sx_condF rfl ?_
  refine sx_exit rfl ?_
  refine sx_seq ?_
  refine sx_join (γ := { x : Nat × Sl × List UInt8 // x.2.2.length = 32 }) (fun x => [(2, .s (evPtr bj)), (5, .s (evPtr b5)), (6, .s (evPtr b6)), (9, .s (evPtr x.1.1))])
    (fun x => .blk x.1.1 38 [.c x.1.2.1.v] :: .vec x.1.2.1 5 1 encB x.1.2.2 :: .blk b6 38 [.c (.slice none 0 0)] :: .blk b5 9 [.c (.string (name ++ dotNew))] :: .blk bj 125 [.c (.pointer (some ⟨jb, 0, none⟩))] :: .blk jb 239 (jCh bd name num sz ct brk) :: .blk bd 62 (diskCh room bm st wr) :: .map bm ekStr evPO names :: .vec st 58 1 encMp sts :: .vec wr 370 3 encLate [] :: M0) (fun J => ?_) (fun x => ?_)
  ·
    refine sx_drawT 8 (by kernel_rfl) (by kernel_rfl) (good_split 0 3 rfl (good_split 0 7 rfl (good_split 3 7 rfl (good_split 5 7 rfl (good_split 6 7 rfl (good_plan [1, 2, 4, 0, 3, 5, 6, 7, 8] [(1, 0), (2, 0), (4, 0), (4, 3)] (by kernel_rfl) ?_) (good_plan [1, 2, 4, 0, 3, 5, 7, 6, 8] [(1, 0), (2, 0), (4, 0), (4, 3)] (by kernel_rfl) ?_)) (good_plan [1, 2, 4, 0, 3, 7, 5, 6, 8] [(1, 0), (2, 0), (4, 0), (4, 3), (4, 7)] (by kernel_rfl) ?_)) (good_plan [1, 2, 4, 0, 7, 3, 5, 6, 8] [(1, 0), (1, 7), (2, 0), (2, 7), (4, 0), (4, 3), (4, 7)] (by kernel_rfl) ?_)) (good_plan [1, 2, 4, 7, 0, 3, 5, 6, 8] [(1, 0), (1, 7), (2, 0), (2, 7), (4, 0), (4, 3), (4, 7)] (by kernel_rfl) ?_)) (good_split 0 7 rfl (good_split 5 7 rfl (good_split 6 7 rfl (good_plan [1, 2, 4, 3, 0, 5, 6, 7, 8] [(4, 0), (4, 3)] (by kernel_rfl) ?_) (good_plan [1, 2, 4, 3, 0, 5, 7, 6, 8] [(4, 0), (4, 3)] (by kernel_rfl) ?_)) (good_plan [1, 2, 4, 3, 0, 7, 5, 6, 8] [(4, 0), (4, 3), (4, 7)] (by kernel_rfl) ?_)) (good_split 3 7 rfl (good_plan [1, 2, 4, 3, 7, 0, 5, 6, 8] [(4, 0), (4, 3), (4, 7)] (by kernel_rfl) ?_) (good_plan [1, 2, 4, 7, 3, 0, 5, 6, 8] [(1, 7), (2, 7), (4, 0), (4, 3), (4, 7)] (by kernel_rfl) ?_))))
    · refine sxo_loadF rfl rfl rfl (by exact .head) rfl rfl rfl ?_
      refine sxo_lenVF rfl rfl rfl rfl rfl rfl ?_
      refine sxo_loadF rfl rfl rfl (by exact .head) rfl rfl rfl ?_
      refine sxo_makeSlice encB 0 rfl rfl rfl rfl rfl rfl rfl rfl rfl rfl rfl rfl rfl (by decide) (fun bz => ?_)
      refine sxo_call0 rfl rfl rfl rfl .nil (fun Kc hK hB => head_ok Kc 1 _) rfl rfl ?_ (hH := by rintro v m ⟨s, l, h, rfl, rfl⟩; (refine hh_chk ⟨_, _, _, (by exact .tail (.tail .head)), (by rfl)⟩ ?_; refine hh_free rfl ?_; refine hh_free rfl ?_; exact hh_nil)); rintro v m ⟨⟨ph, nh, ch⟩, lh, hlh, rfl, rfl⟩; simp only [List.cons_append, List.nil_append]
      refine sxo_buildSlice rfl rfl rfl rfl rfl rfl rfl rfl rfl rfl rfl rfl rfl (fun _ => ?_)
      refine sxo_call0 rfl rfl rfl rfl (by (apply Take.cons; focus exact .head); (apply Take.cons; focus exact .tail .head); (apply Take.cons; focus exact .head); exact .nil) (fun Kc hK hB => Concat_ok Kc _ [(⟨some ⟨bz, 0, none⟩, 16, 16⟩, List.replicate 16 0), (⟨ph, nh, ch⟩, lh), (⟨none, 0, 0⟩, [])] [.vec ⟨some ⟨bz, 0, none⟩, 16, 16⟩ 5 1 encB (List.replicate 16 0), .vec ⟨ph, nh, ch⟩ 5 1 encB lh] (by simp) (by intro x hx; simp at hx; rcases hx with rfl | rfl | rfl <;> simp [hlh]) (by simp) (by intro Kd _ x hx; simp at hx; rcases hx with rfl | rfl | rfl; exact Reads.own .head; exact Reads.own (.tail .head); exact Reads.nil_)) rfl rfl ?_ (hH := by rintro v m ⟨s, rfl, rfl⟩; (refine hh_free rfl ?_; refine hh_free rfl ?_; refine hh_free rfl ?_; exact hh_nil)); rintro v m ⟨⟨pw, nw, cw⟩, rfl, rfl⟩; simp only [List.cons_append, List.nil_append]
      refine sxo_alloc rfl rfl rfl rfl rfl rfl (fun _ => ?_)
      refine sxo_store rfl rfl rfl rfl (by exact .head) rfl rfl rfl rfl rfl ?_
      refine sxo_end ?_
      exact sx_less (by refine .cons rfl ?_; refine .cons rfl ?_; refine .cons rfl ?_; refine .cons rfl ?_; exact .nil _) (by (apply Take.cons; focus exact .head); (apply Take.cons; focus exact .head); (apply Take.cons; focus exact .tail (.tail (.tail .head))); (apply Take.cons; focus exact .tail (.tail (.tail .head))); (apply Take.cons; focus exact .tail (.tail (.tail .head))); (apply Take.cons; focus exact .tail (.tail (.tail .head))); (apply Take.cons; focus exact .tail (.tail (.tail .head))); (apply Take.cons; focus exact .tail (.tail (.tail .head))); (apply Take.cons; focus exact .tail (.tail (.tail .head))); (apply Take.cons; focus exact .tail (.tail (.tail .head))); apply Take.skip; apply Take.skip; apply Take.skip; exact .all) (J ⟨(_, ⟨pw, nw, cw⟩, _), by simp [hlh]⟩)
    · refine sxo_loadF rfl rfl rfl (by exact .head) rfl rfl rfl ?_
      refine sxo_lenVF rfl rfl rfl rfl rfl rfl ?_
      refine sxo_loadF rfl rfl rfl (by exact .head) rfl rfl rfl ?_
      refine sxo_makeSlice encB 0 rfl rfl rfl rfl rfl rfl rfl rfl rfl rfl rfl rfl rfl (by decide) (fun bz => ?_)
      refine sxo_call0 rfl rfl rfl rfl .nil (fun Kc hK hB => head_ok Kc 1 _) rfl rfl ?_ (hH := by rintro v m ⟨s, l, h, rfl, rfl⟩; (refine hh_chk ⟨_, _, _, (by exact .tail (.tail .head)), (by rfl)⟩ ?_; refine hh_free rfl ?_; refine hh_free rfl ?_; exact hh_nil)); rintro v m ⟨⟨ph, nh, ch⟩, lh, hlh, rfl, rfl⟩; simp only [List.cons_append, List.nil_append]
      refine sxo_buildSlice rfl rfl rfl rfl rfl rfl rfl rfl rfl rfl rfl rfl rfl (fun _ => ?_)
      refine sxo_alloc rfl rfl rfl rfl rfl rfl (fun _ => ?_)
      refine sxo_call0 rfl rfl rfl rfl (by (apply Take.cons; focus exact .tail .head); (apply Take.cons; focus exact .tail (.tail .head)); (apply Take.cons; focus exact .tail .head); exact .nil) (fun Kc hK hB => Concat_ok Kc _ [(⟨some ⟨bz, 0, none⟩, 16, 16⟩, List.replicate 16 0), (⟨ph, nh, ch⟩, lh), (⟨none, 0, 0⟩, [])] [.vec ⟨some ⟨bz, 0, none⟩, 16, 16⟩ 5 1 encB (List.replicate 16 0), .vec ⟨ph, nh, ch⟩ 5 1 encB lh] (by simp) (by intro x hx; simp at hx; rcases hx with rfl | rfl | rfl <;> simp [hlh]) (by simp) (by intro Kd _ x hx; simp at hx; rcases hx with rfl | rfl | rfl; exact Reads.own .head; exact Reads.own (.tail .head); exact Reads.nil_)) rfl rfl ?_ (hH := by rintro v m ⟨s, rfl, rfl⟩; (refine hh_free rfl ?_; refine hh_free rfl ?_; refine hh_free rfl ?_; exact hh_nil)); rintro v m ⟨⟨pw, nw, cw⟩, rfl, rfl⟩; simp only [List.cons_append, List.nil_append]
      refine sxo_store rfl rfl rfl rfl (by exact .tail (.tail (.tail (.tail .head)))) rfl rfl rfl rfl rfl ?_
      refine sxo_end ?_
      exact sx_less (by refine .cons rfl ?_; refine .cons rfl ?_; refine .cons rfl ?_; refine .cons rfl ?_; exact .nil _) (by (apply Take.cons; focus exact .head); (apply Take.cons; focus exact .head); (apply Take.cons; focus exact .tail (.tail (.tail .head))); (apply Take.cons; focus exact .tail (.tail (.tail .head))); (apply Take.cons; focus exact .tail (.tail (.tail .head))); (apply Take.cons; focus exact .tail (.tail (.tail .head))); (apply Take.cons; focus exact .tail (.tail (.tail .head))); (apply Take.cons; focus exact .tail (.tail (.tail .head))); (apply Take.cons; focus exact .tail (.tail (.tail .head))); (apply Take.cons; focus exact .tail (.tail (.tail .head))); apply Take.skip; apply Take.skip; apply Take.skip; exact .all) (J ⟨(_, ⟨pw, nw, cw⟩, _), by simp [hlh]⟩)
    · refine sxo_loadF rfl rfl rfl (by exact .head) rfl rfl rfl ?_
      refine sxo_lenVF rfl rfl rfl rfl rfl rfl ?_
      refine sxo_loadF rfl rfl rfl (by exact .head) rfl rfl rfl ?_
      refine sxo_makeSlice encB 0 rfl rfl rfl rfl rfl rfl rfl rfl rfl rfl rfl rfl rfl (by decide) (fun bz => ?_)
      refine sxo_call0 rfl rfl rfl rfl .nil (fun Kc hK hB => head_ok Kc 1 _) rfl rfl ?_ (hH := by rintro v m ⟨s, l, h, rfl, rfl⟩; (refine hh_chk ⟨_, _, _, (by exact .tail (.tail .head)), (by rfl)⟩ ?_; refine hh_free rfl ?_; refine hh_free rfl ?_; exact hh_nil)); rintro v m ⟨⟨ph, nh, ch⟩, lh, hlh, rfl, rfl⟩; simp only [List.cons_append, List.nil_append]
      refine sxo_alloc rfl rfl rfl rfl rfl rfl (fun _ => ?_)
      refine sxo_buildSlice rfl rfl rfl rfl rfl rfl rfl rfl rfl rfl rfl rfl rfl (fun _ => ?_)
      refine sxo_call0 rfl rfl rfl rfl (by (apply Take.cons; focus exact .head); (apply Take.cons; focus exact .tail (.tail .head)); (apply Take.cons; focus exact .tail .head); exact .nil) (fun Kc hK hB => Concat_ok Kc _ [(⟨some ⟨bz, 0, none⟩, 16, 16⟩, List.replicate 16 0), (⟨ph, nh, ch⟩, lh), (⟨none, 0, 0⟩, [])] [.vec ⟨some ⟨bz, 0, none⟩, 16, 16⟩ 5 1 encB (List.replicate 16 0), .vec ⟨ph, nh, ch⟩ 5 1 encB lh] (by simp) (by intro x hx; simp at hx; rcases hx with rfl | rfl | rfl <;> simp [hlh]) (by simp) (by intro Kd _ x hx; simp at hx; rcases hx with rfl | rfl | rfl; exact Reads.own .head; exact Reads.own (.tail .head); exact Reads.nil_)) rfl rfl ?_ (hH := by rintro v m ⟨s, rfl, rfl⟩; (refine hh_free rfl ?_; refine hh_free rfl ?_; refine hh_free rfl ?_; exact hh_nil)); rintro v m ⟨⟨pw, nw, cw⟩, rfl, rfl⟩; simp only [List.cons_append, List.nil_append]
      refine sxo_store rfl rfl rfl rfl (by exact .tail (.tail (.tail (.tail .head)))) rfl rfl rfl rfl rfl ?_
      refine sxo_end ?_
      exact sx_less (by refine .cons rfl ?_; refine .cons rfl ?_; refine .cons rfl ?_; refine .cons rfl ?_; exact .nil _) (by (apply Take.cons; focus exact .head); (apply Take.cons; focus exact .head); (apply Take.cons; focus exact .tail (.tail (.tail .head))); (apply Take.cons; focus exact .tail (.tail (.tail .head))); (apply Take.cons; focus exact .tail (.tail (.tail .head))); (apply Take.cons; focus exact .tail (.tail (.tail .head))); (apply Take.cons; focus exact .tail (.tail (.tail .head))); (apply Take.cons; focus exact .tail (.tail (.tail .head))); (apply Take.cons; focus exact .tail (.tail (.tail .head))); (apply Take.cons; focus exact .tail (.tail (.tail .head))); apply Take.skip; apply Take.skip; apply Take.skip; exact .all) (J ⟨(_, ⟨pw, nw, cw⟩, _), by simp [hlh]⟩)
    · refine sxo_loadF rfl rfl rfl (by exact .head) rfl rfl rfl ?_
      refine sxo_lenVF rfl rfl rfl rfl rfl rfl ?_
      refine sxo_loadF rfl rfl rfl (by exact .head) rfl rfl rfl ?_
      refine sxo_makeSlice encB 0 rfl rfl rfl rfl rfl rfl rfl rfl rfl rfl rfl rfl rfl (by decide) (fun bz => ?_)
      refine sxo_alloc rfl rfl rfl rfl rfl rfl (fun _ => ?_)
      refine sxo_call0 rfl rfl rfl rfl .nil (fun Kc hK hB => head_ok Kc 1 _) rfl rfl ?_ (hH := by rintro v m ⟨s, l, h, rfl, rfl⟩; (refine hh_chk ⟨_, _, _, (by exact .tail (.tail (.tail .head))), (by rfl)⟩ ?_; refine hh_free rfl ?_; refine hh_free rfl ?_; exact hh_nil)); rintro v m ⟨⟨ph, nh, ch⟩, lh, hlh, rfl, rfl⟩; simp only [List.cons_append, List.nil_append]
      refine sxo_buildSlice rfl rfl rfl rfl rfl rfl rfl rfl rfl rfl rfl rfl rfl (fun _ => ?_)
      refine sxo_call0 rfl rfl rfl rfl (by (apply Take.cons; focus exact .head); (apply Take.cons; focus exact .tail (.tail .head)); (apply Take.cons; focus exact .head); exact .nil) (fun Kc hK hB => Concat_ok Kc _ [(⟨some ⟨bz, 0, none⟩, 16, 16⟩, List.replicate 16 0), (⟨ph, nh, ch⟩, lh), (⟨none, 0, 0⟩, [])] [.vec ⟨some ⟨bz, 0, none⟩, 16, 16⟩ 5 1 encB (List.replicate 16 0), .vec ⟨ph, nh, ch⟩ 5 1 encB lh] (by simp) (by intro x hx; simp at hx; rcases hx with rfl | rfl | rfl <;> simp [hlh]) (by simp) (by intro Kd _ x hx; simp at hx; rcases hx with rfl | rfl | rfl; exact Reads.own .head; exact Reads.own (.tail .head); exact Reads.nil_)) rfl rfl ?_ (hH := by rintro v m ⟨s, rfl, rfl⟩; (refine hh_free rfl ?_; refine hh_free rfl ?_; refine hh_free rfl ?_; exact hh_nil)); rintro v m ⟨⟨pw, nw, cw⟩, rfl, rfl⟩; simp only [List.cons_append, List.nil_append]
      refine sxo_store rfl rfl rfl rfl (by exact .tail (.tail (.tail (.tail .head)))) rfl rfl rfl rfl rfl ?_
      refine sxo_end ?_
      exact sx_less (by refine .cons rfl ?_; refine .cons rfl ?_; refine .cons rfl ?_; refine .cons rfl ?_; exact .nil _) (by (apply Take.cons; focus exact .head); (apply Take.cons; focus exact .head); (apply Take.cons; focus exact .tail (.tail (.tail .head))); (apply Take.cons; focus exact .tail (.tail (.tail .head))); (apply Take.cons; focus exact .tail (.tail (.tail .head))); (apply Take.cons; focus exact .tail (.tail (.tail .head))); (apply Take.cons; focus exact .tail (.tail (.tail .head))); (apply Take.cons; focus exact .tail (.tail (.tail .head))); (apply Take.cons; focus exact .tail (.tail (.tail .head))); (apply Take.cons; focus exact .tail (.tail (.tail .head))); apply Take.skip; apply Take.skip; apply Take.skip; exact .all) (J ⟨(_, ⟨pw, nw, cw⟩, _), by simp [hlh]⟩)
    · refine sxo_loadF rfl rfl rfl (by exact .head) rfl rfl rfl ?_
      refine sxo_lenVF rfl rfl rfl rfl rfl rfl ?_
      refine sxo_loadF rfl rfl rfl (by exact .head) rfl rfl rfl ?_
      refine sxo_alloc rfl rfl rfl rfl rfl rfl (fun _ => ?_)
      refine sxo_makeSlice encB 0 rfl rfl rfl rfl rfl rfl rfl rfl rfl rfl rfl rfl rfl (by decide) (fun bz => ?_)
      refine sxo_call0 rfl rfl rfl rfl .nil (fun Kc hK hB => head_ok Kc 1 _) rfl rfl ?_ (hH := by rintro v m ⟨s, l, h, rfl, rfl⟩; (refine hh_chk ⟨_, _, _, (by exact .tail (.tail (.tail .head))), (by rfl)⟩ ?_; refine hh_free rfl ?_; refine hh_free rfl ?_; exact hh_nil)); rintro v m ⟨⟨ph, nh, ch⟩, lh, hlh, rfl, rfl⟩; simp only [List.cons_append, List.nil_append]
      refine sxo_buildSlice rfl rfl rfl rfl rfl rfl rfl rfl rfl rfl rfl rfl rfl (fun _ => ?_)
      refine sxo_call0 rfl rfl rfl rfl (by (apply Take.cons; focus exact .head); (apply Take.cons; focus exact .tail .head); (apply Take.cons; focus exact .head); exact .nil) (fun Kc hK hB => Concat_ok Kc _ [(⟨some ⟨bz, 0, none⟩, 16, 16⟩, List.replicate 16 0), (⟨ph, nh, ch⟩, lh), (⟨none, 0, 0⟩, [])] [.vec ⟨some ⟨bz, 0, none⟩, 16, 16⟩ 5 1 encB (List.replicate 16 0), .vec ⟨ph, nh, ch⟩ 5 1 encB lh] (by simp) (by intro x hx; simp at hx; rcases hx with rfl | rfl | rfl <;> simp [hlh]) (by simp) (by intro Kd _ x hx; simp at hx; rcases hx with rfl | rfl | rfl; exact Reads.own .head; exact Reads.own (.tail .head); exact Reads.nil_)) rfl rfl ?_ (hH := by rintro v m ⟨s, rfl, rfl⟩; (refine hh_free rfl ?_; refine hh_free rfl ?_; refine hh_free rfl ?_; exact hh_nil)); rintro v m ⟨⟨pw, nw, cw⟩, rfl, rfl⟩; simp only [List.cons_append, List.nil_append]
      refine sxo_store rfl rfl rfl rfl (by exact .tail (.tail (.tail (.tail .head)))) rfl rfl rfl rfl rfl ?_
      refine sxo_end ?_
      exact sx_less (by refine .cons rfl ?_; refine .cons rfl ?_; refine .cons rfl ?_; refine .cons rfl ?_; exact .nil _) (by (apply Take.cons; focus exact .head); (apply Take.cons; focus exact .head); (apply Take.cons; focus exact .tail (.tail (.tail .head))); (apply Take.cons; focus exact .tail (.tail (.tail .head))); (apply Take.cons; focus exact .tail (.tail (.tail .head))); (apply Take.cons; focus exact .tail (.tail (.tail .head))); (apply Take.cons; focus exact .tail (.tail (.tail .head))); (apply Take.cons; focus exact .tail (.tail (.tail .head))); (apply Take.cons; focus exact .tail (.tail (.tail .head))); (apply Take.cons; focus exact .tail (.tail (.tail .head))); apply Take.skip; apply Take.skip; apply Take.skip; exact .all) (J ⟨(_, ⟨pw, nw, cw⟩, _), by simp [hlh]⟩)
    · refine sxo_load rfl rfl rfl (by exact .head) rfl rfl rfl rfl ?_
      refine sxo_lenV rfl rfl rfl rfl rfl rfl rfl ?_
      refine sxo_loadF rfl rfl rfl (by exact .head) rfl rfl rfl ?_
      refine sxo_call0 rfl rfl rfl rfl .nil (fun Kc hK hB => head_ok Kc 1 _) rfl rfl ?_ (hH := by rintro v m ⟨s, l, h, rfl, rfl⟩; (refine hh_chk ⟨_, _, _, (by exact .tail .head), (by rfl)⟩ ?_; exact hh_nil)); rintro v m ⟨⟨ph, nh, ch⟩, lh, hlh, rfl, rfl⟩; simp only [List.cons_append, List.nil_append]
      refine sxo_makeSlice encB 0 rfl rfl rfl rfl rfl rfl rfl rfl rfl rfl rfl rfl rfl (by decide) (fun bz => ?_)
      refine sxo_buildSlice rfl rfl rfl rfl rfl rfl rfl rfl rfl rfl rfl rfl rfl (fun _ => ?_)
      refine sxo_call0 rfl rfl rfl rfl (by (apply Take.cons; focus exact .head); (apply Take.cons; focus exact .head); (apply Take.cons; focus exact .head); exact .nil) (fun Kc hK hB => Concat_ok Kc _ [(⟨some ⟨bz, 0, none⟩, 16, 16⟩, List.replicate 16 0), (⟨ph, nh, ch⟩, lh), (⟨none, 0, 0⟩, [])] [.vec ⟨some ⟨bz, 0, none⟩, 16, 16⟩ 5 1 encB (List.replicate 16 0), .vec ⟨ph, nh, ch⟩ 5 1 encB lh] (by simp) (by intro x hx; simp at hx; rcases hx with rfl | rfl | rfl <;> simp [hlh]) (by simp) (by intro Kd _ x hx; simp at hx; rcases hx with rfl | rfl | rfl; exact Reads.own .head; exact Reads.own (.tail .head); exact Reads.nil_)) rfl rfl ?_ (hH := by rintro v m ⟨s, rfl, rfl⟩; (refine hh_free rfl ?_; exact hh_nil)); rintro v m ⟨⟨pw, nw, cw⟩, rfl, rfl⟩; simp only [List.cons_append, List.nil_append]
      refine sxo_alloc rfl rfl rfl rfl rfl rfl (fun _ => ?_)
      refine sxo_store rfl rfl rfl rfl (by exact .head) rfl rfl rfl rfl rfl ?_
      refine sxo_end ?_
      exact sx_less (by refine .cons rfl ?_; refine .cons rfl ?_; refine .cons rfl ?_; refine .cons rfl ?_; exact .nil _) (by (apply Take.cons; focus exact .head); (apply Take.cons; focus exact .head); (apply Take.cons; focus exact .tail (.tail (.tail .head))); (apply Take.cons; focus exact .tail (.tail (.tail .head))); (apply Take.cons; focus exact .tail (.tail (.tail .head))); (apply Take.cons; focus exact .tail (.tail (.tail .head))); (apply Take.cons; focus exact .tail (.tail (.tail .head))); (apply Take.cons; focus exact .tail (.tail (.tail .head))); (apply Take.cons; focus exact .tail (.tail (.tail .head))); (apply Take.cons; focus exact .tail (.tail (.tail .head))); apply Take.skip; apply Take.skip; apply Take.skip; exact .all) (J ⟨(_, ⟨pw, nw, cw⟩, _), by simp [hlh]⟩)
    · refine sxo_load rfl rfl rfl (by exact .head) rfl rfl rfl rfl ?_
      refine sxo_lenV rfl rfl rfl rfl rfl rfl rfl ?_
      refine sxo_loadF rfl rfl rfl (by exact .head) rfl rfl rfl ?_
      refine sxo_call0 rfl rfl rfl rfl .nil (fun Kc hK hB => head_ok Kc 1 _) rfl rfl ?_ (hH := by rintro v m ⟨s, l, h, rfl, rfl⟩; (refine hh_chk ⟨_, _, _, (by exact .tail .head), (by rfl)⟩ ?_; exact hh_nil)); rintro v m ⟨⟨ph, nh, ch⟩, lh, hlh, rfl, rfl⟩; simp only [List.cons_append, List.nil_append]
      refine sxo_makeSlice encB 0 rfl rfl rfl rfl rfl rfl rfl rfl rfl rfl rfl rfl rfl (by decide) (fun bz => ?_)
      refine sxo_buildSlice rfl rfl rfl rfl rfl rfl rfl rfl rfl rfl rfl rfl rfl (fun _ => ?_)
      refine sxo_alloc rfl rfl rfl rfl rfl rfl (fun _ => ?_)
      refine sxo_call0 rfl rfl rfl rfl (by (apply Take.cons; focus exact .tail .head); (apply Take.cons; focus exact .tail .head); (apply Take.cons; focus exact .tail .head); exact .nil) (fun Kc hK hB => Concat_ok Kc _ [(⟨some ⟨bz, 0, none⟩, 16, 16⟩, List.replicate 16 0), (⟨ph, nh, ch⟩, lh), (⟨none, 0, 0⟩, [])] [.vec ⟨some ⟨bz, 0, none⟩, 16, 16⟩ 5 1 encB (List.replicate 16 0), .vec ⟨ph, nh, ch⟩ 5 1 encB lh] (by simp) (by intro x hx; simp at hx; rcases hx with rfl | rfl | rfl <;> simp [hlh]) (by simp) (by intro Kd _ x hx; simp at hx; rcases hx with rfl | rfl | rfl; exact Reads.own .head; exact Reads.own (.tail .head); exact Reads.nil_)) rfl rfl ?_ (hH := by rintro v m ⟨s, rfl, rfl⟩; (refine hh_free rfl ?_; exact hh_nil)); rintro v m ⟨⟨pw, nw, cw⟩, rfl, rfl⟩; simp only [List.cons_append, List.nil_append]
      refine sxo_store rfl rfl rfl rfl (by exact .tail (.tail (.tail (.tail .head)))) rfl rfl rfl rfl rfl ?_
      refine sxo_end ?_
      exact sx_less (by refine .cons rfl ?_; refine .cons rfl ?_; refine .cons rfl ?_; refine .cons rfl ?_; exact .nil _) (by (apply Take.cons; focus exact .head); (apply Take.cons; focus exact .head); (apply Take.cons; focus exact .tail (.tail (.tail .head))); (apply Take.cons; focus exact .tail (.tail (.tail .head))); (apply Take.cons; focus exact .tail (.tail (.tail .head))); (apply Take.cons; focus exact .tail (.tail (.tail .head))); (apply Take.cons; focus exact .tail (.tail (.tail .head))); (apply Take.cons; focus exact .tail (.tail (.tail .head))); (apply Take.cons; focus exact .tail (.tail (.tail .head))); (apply Take.cons; focus exact .tail (.tail (.tail .head))); apply Take.skip; apply Take.skip; apply Take.skip; exact .all) (J ⟨(_, ⟨pw, nw, cw⟩, _), by simp [hlh]⟩)
    · refine sxo_load rfl rfl rfl (by exact .head) rfl rfl rfl rfl ?_
      refine sxo_lenV rfl rfl rfl rfl rfl rfl rfl ?_
      refine sxo_loadF rfl rfl rfl (by exact .head) rfl rfl rfl ?_
      refine sxo_call0 rfl rfl rfl rfl .nil (fun Kc hK hB => head_ok Kc 1 _) rfl rfl ?_ (hH := by rintro v m ⟨s, l, h, rfl, rfl⟩; (refine hh_chk ⟨_, _, _, (by exact .tail .head), (by rfl)⟩ ?_; exact hh_nil)); rintro v m ⟨⟨ph, nh, ch⟩, lh, hlh, rfl, rfl⟩; simp only [List.cons_append, List.nil_append]
      refine sxo_makeSlice encB 0 rfl rfl rfl rfl rfl rfl rfl rfl rfl rfl rfl rfl rfl (by decide) (fun bz => ?_)
      refine sxo_alloc rfl rfl rfl rfl rfl rfl (fun _ => ?_)
      refine sxo_buildSlice rfl rfl rfl rfl rfl rfl rfl rfl rfl rfl rfl rfl rfl (fun _ => ?_)
      refine sxo_call0 rfl rfl rfl rfl (by (apply Take.cons; focus exact .head); (apply Take.cons; focus exact .tail .head); (apply Take.cons; focus exact .tail .head); exact .nil) (fun Kc hK hB => Concat_ok Kc _ [(⟨some ⟨bz, 0, none⟩, 16, 16⟩, List.replicate 16 0), (⟨ph, nh, ch⟩, lh), (⟨none, 0, 0⟩, [])] [.vec ⟨some ⟨bz, 0, none⟩, 16, 16⟩ 5 1 encB (List.replicate 16 0), .vec ⟨ph, nh, ch⟩ 5 1 encB lh] (by simp) (by intro x hx; simp at hx; rcases hx with rfl | rfl | rfl <;> simp [hlh]) (by simp) (by intro Kd _ x hx; simp at hx; rcases hx with rfl | rfl | rfl; exact Reads.own .head; exact Reads.own (.tail .head); exact Reads.nil_)) rfl rfl ?_ (hH := by rintro v m ⟨s, rfl, rfl⟩; (refine hh_free rfl ?_; exact hh_nil)); rintro v m ⟨⟨pw, nw, cw⟩, rfl, rfl⟩; simp only [List.cons_append, List.nil_append]
      refine sxo_store rfl rfl rfl rfl (by exact .tail (.tail (.tail (.tail .head)))) rfl rfl rfl rfl rfl ?_
      refine sxo_end ?_
      exact sx_less (by refine .cons rfl ?_; refine .cons rfl ?_; refine .cons rfl ?_; refine .cons rfl ?_; exact .nil _) (by (apply Take.cons; focus exact .head); (apply Take.cons; focus exact .head); (apply Take.cons; focus exact .tail (.tail (.tail .head))); (apply Take.cons; focus exact .tail (.tail (.tail .head))); (apply Take.cons; focus exact .tail (.tail (.tail .head))); (apply Take.cons; focus exact .tail (.tail (.tail .head))); (apply Take.cons; focus exact .tail (.tail (.tail .head))); (apply Take.cons; focus exact .tail (.tail (.tail .head))); (apply Take.cons; focus exact .tail (.tail (.tail .head))); (apply Take.cons; focus exact .tail (.tail (.tail .head))); apply Take.skip; apply Take.skip; apply Take.skip; exact .all) (J ⟨(_, ⟨pw, nw, cw⟩, _), by simp [hlh]⟩)
    · refine sxo_load rfl rfl rfl (by exact .head) rfl rfl rfl rfl ?_
      refine sxo_lenV rfl rfl rfl rfl rfl rfl rfl ?_
      refine sxo_loadF rfl rfl rfl (by exact .head) rfl rfl rfl ?_
      refine sxo_call0 rfl rfl rfl rfl .nil (fun Kc hK hB => head_ok Kc 1 _) rfl rfl ?_ (hH := by rintro v m ⟨s, l, h, rfl, rfl⟩; (refine hh_chk ⟨_, _, _, (by exact .tail .head), (by rfl)⟩ ?_; exact hh_nil)); rintro v m ⟨⟨ph, nh, ch⟩, lh, hlh, rfl, rfl⟩; simp only [List.cons_append, List.nil_append]
      refine sxo_alloc rfl rfl rfl rfl rfl rfl (fun _ => ?_)
      refine sxo_makeSlice encB 0 rfl rfl rfl rfl rfl rfl rfl rfl rfl rfl rfl rfl rfl (by decide) (fun bz => ?_)
      refine sxo_buildSlice rfl rfl rfl rfl rfl rfl rfl rfl rfl rfl rfl rfl rfl (fun _ => ?_)
      refine sxo_call0 rfl rfl rfl rfl (by (apply Take.cons; focus exact .head); (apply Take.cons; focus exact .head); (apply Take.cons; focus exact .tail .head); exact .nil) (fun Kc hK hB => Concat_ok Kc _ [(⟨some ⟨bz, 0, none⟩, 16, 16⟩, List.replicate 16 0), (⟨ph, nh, ch⟩, lh), (⟨none, 0, 0⟩, [])] [.vec ⟨some ⟨bz, 0, none⟩, 16, 16⟩ 5 1 encB (List.replicate 16 0), .vec ⟨ph, nh, ch⟩ 5 1 encB lh] (by simp) (by intro x hx; simp at hx; rcases hx with rfl | rfl | rfl <;> simp [hlh]) (by simp) (by intro Kd _ x hx; simp at hx; rcases hx with rfl | rfl | rfl; exact Reads.own .head; exact Reads.own (.tail .head); exact Reads.nil_)) rfl rfl ?_ (hH := by rintro v m ⟨s, rfl, rfl⟩; (refine hh_free rfl ?_; exact hh_nil)); rintro v m ⟨⟨pw, nw, cw⟩, rfl, rfl⟩; simp only [List.cons_append, List.nil_append]
      refine sxo_store rfl rfl rfl rfl (by exact .tail (.tail (.tail (.tail .head)))) rfl rfl rfl rfl rfl ?_
      refine sxo_end ?_
      exact sx_less (by refine .cons rfl ?_; refine .cons rfl ?_; refine .cons rfl ?_; refine .cons rfl ?_; exact .nil _) (by (apply Take.cons; focus exact .head); (apply Take.cons; focus exact .head); (apply Take.cons; focus exact .tail (.tail (.tail .head))); (apply Take.cons; focus exact .tail (.tail (.tail .head))); (apply Take.cons; focus exact .tail (.tail (.tail .head))); (apply Take.cons; focus exact .tail (.tail (.tail .head))); (apply Take.cons; focus exact .tail (.tail (.tail .head))); (apply Take.cons; focus exact .tail (.tail (.tail .head))); (apply Take.cons; focus exact .tail (.tail (.tail .head))); (apply Take.cons; focus exact .tail (.tail (.tail .head))); apply Take.skip; apply Take.skip; apply Take.skip; exact .all) (J ⟨(_, ⟨pw, nw, cw⟩, _), by simp [hlh]⟩)
    · refine sxo_loadF rfl rfl rfl (by exact .head) rfl rfl rfl ?_
      refine sxo_lenVF rfl rfl rfl rfl rfl rfl ?_
      refine sxo_loadF rfl rfl rfl (by exact .head) rfl rfl rfl ?_
      refine sxo_alloc rfl rfl rfl rfl rfl rfl (fun _ => ?_)
      refine sxo_call0 rfl rfl rfl rfl .nil (fun Kc hK hB => head_ok Kc 1 _) rfl rfl ?_ (hH := by rintro v m ⟨s, l, h, rfl, rfl⟩; (refine hh_chk ⟨_, _, _, (by exact .tail (.tail .head)), (by rfl)⟩ ?_; refine hh_free rfl ?_; refine hh_free rfl ?_; exact hh_nil)); rintro v m ⟨⟨ph, nh, ch⟩, lh, hlh, rfl, rfl⟩; simp only [List.cons_append, List.nil_append]
      refine sxo_makeSlice encB 0 rfl rfl rfl rfl rfl rfl rfl rfl rfl rfl rfl rfl rfl (by decide) (fun bz => ?_)
      refine sxo_buildSlice rfl rfl rfl rfl rfl rfl rfl rfl rfl rfl rfl rfl rfl (fun _ => ?_)
      refine sxo_call0 rfl rfl rfl rfl (by (apply Take.cons; focus exact .head); (apply Take.cons; focus exact .head); (apply Take.cons; focus exact .head); exact .nil) (fun Kc hK hB => Concat_ok Kc _ [(⟨some ⟨bz, 0, none⟩, 16, 16⟩, List.replicate 16 0), (⟨ph, nh, ch⟩, lh), (⟨none, 0, 0⟩, [])] [.vec ⟨some ⟨bz, 0, none⟩, 16, 16⟩ 5 1 encB (List.replicate 16 0), .vec ⟨ph, nh, ch⟩ 5 1 encB lh] (by simp) (by intro x hx; simp at hx; rcases hx with rfl | rfl | rfl <;> simp [hlh]) (by simp) (by intro Kd _ x hx; simp at hx; rcases hx with rfl | rfl | rfl; exact Reads.own .head; exact Reads.own (.tail .head); exact Reads.nil_)) rfl rfl ?_ (hH := by rintro v m ⟨s, rfl, rfl⟩; (refine hh_free rfl ?_; refine hh_free rfl ?_; refine hh_free rfl ?_; exact hh_nil)); rintro v m ⟨⟨pw, nw, cw⟩, rfl, rfl⟩; simp only [List.cons_append, List.nil_append]
      refine sxo_store rfl rfl rfl rfl (by exact .tail (.tail (.tail (.tail .head)))) rfl rfl rfl rfl rfl ?_
      refine sxo_end ?_
      exact sx_less (by refine .cons rfl ?_; refine .cons rfl ?_; refine .cons rfl ?_; refine .cons rfl ?_; exact .nil _) (by (apply Take.cons; focus exact .head); (apply Take.cons; focus exact .head); (apply Take.cons; focus exact .tail (.tail (.tail .head))); (apply Take.cons; focus exact .tail (.tail (.tail .head))); (apply Take.cons; focus exact .tail (.tail (.tail .head))); (apply Take.cons; focus exact .tail (.tail (.tail .head))); (apply Take.cons; focus exact .tail (.tail (.tail .head))); (apply Take.cons; focus exact .tail (.tail (.tail .head))); (apply Take.cons; focus exact .tail (.tail (.tail .head))); (apply Take.cons; focus exact .tail (.tail (.tail .head))); apply Take.skip; apply Take.skip; apply Take.skip; exact .all) (J ⟨(_, ⟨pw, nw, cw⟩, _), by simp [hlh]⟩)
  · obtain ⟨⟨b9, ⟨pw, nw, cw⟩, lw⟩, hlw⟩ := x
    simp only at hlw
    refine sx_seq ?_
    refine sx_region ?_
    refine sxo_pure rfl rfl rfl trivial ?_
    refine sxo_end ?_
    refine sx_seq ?_
    refine sx_seq ?_
    refine sx_drawN 10 (by kernel_rfl) [0, 1, 2, 3, 4, 5, 6, 7, 8, 9, 10] [] (by kernel_rfl) ?_
    refine sxo_load rfl rfl rfl (by exact .tail (.tail (.tail (.tail .head)))) rfl rfl rfl rfl ?_
    refine sxo_pure rfl rfl rfl trivial ?_
    refine sxo_pure rfl rfl rfl trivial ?_
    refine sxo_load rfl rfl rfl (by exact .tail (.tail (.tail (.tail (.tail .head))))) rfl rfl rfl rfl ?_
    refine sxo_load rfl rfl rfl (by exact .tail (.tail (.tail .head))) rfl rfl rfl rfl ?_
    refine sxo_call0 rfl rfl rfl rfl (by (apply Take.cons; focus exact .tail (.tail (.tail (.tail (.tail (.tail .head)))))); (apply Take.cons; focus exact .tail (.tail (.tail (.tail (.tail (.tail .head)))))); exact .nil) (fun Kc hK hB => SizeNo_ok Kc bd room bm st wr names (name ++ dotNew) hno) rfl rfl ?_ (hH := by rintro v m ⟨rfl, rfl⟩; (exact hh_nil))
    rintro v m ⟨rfl, rfl⟩
    simp only [List.cons_append, List.nil_append, List.append_nil, resV]
    refine sxo_pure rfl rfl rfl trivial ?_
    refine sxo_pure rfl rfl rfl trivial ?_
    refine sxo_pure rfl rfl rfl trivial ?_
    refine sxo_pure rfl rfl rfl trivial ?_
    refine sxo_pure rfl rfl rfl trivial ?_
    refine sxo_end ?_
    refine sx_seq ?_
    refine sx_region ?_
    refine sxo_pure rfl rfl rfl trivial ?_
    refine sxo_pure rfl rfl rfl trivial ?_
    refine sxo_end ?_
    refine sx_condF rfl ?_
    refine sx_skip ?_
    refine sx_seq ?_
    refine sx_region ?_
    refine sxo_pure rfl rfl rfl trivial ?_
    refine sxo_pure rfl rfl rfl trivial ?_
    refine sxo_pure rfl rfl rfl trivial ?_
    refine sxo_pure rfl rfl rfl trivial ?_
    refine sxo_pure rfl rfl rfl trivial ?_
    refine sxo_load rfl rfl rfl (by exact .tail (.tail (.tail (.tail (.tail (.tail .head)))))) rfl rfl rfl rfl ?_
    refine sxo_pure rfl rfl rfl trivial ?_
    refine sxo_pure rfl rfl rfl trivial ?_
    refine sxo_load rfl rfl rfl (by exact .tail (.tail (.tail (.tail (.tail (.tail (.tail .head))))))) rfl rfl rfl rfl ?_
    refine sxo_pure rfl rfl rfl trivial ?_
    refine sxo_pure rfl rfl rfl trivial ?_
    refine sxo_buildSlice rfl rfl rfl rfl rfl rfl rfl rfl rfl rfl rfl rfl rfl (fun _ => ?_)
    refine sxo_append0 (lx := ([⟨.func 227, #[], #[.pointer (some ⟨bj, 0, none⟩), .pointer (some ⟨b5, 0, none⟩)]⟩, ⟨.func 228, #[], #[.pointer (some ⟨bj, 0, none⟩), .pointer (some ⟨b5, 0, none⟩), .pointer (some ⟨b9, 0, none⟩)]⟩, ⟨.func 229, #[], #[.pointer (some ⟨bj, 0, none⟩), .pointer (some ⟨b5, 0, none⟩)]⟩, ⟨.func 231, #[], #[.pointer (some ⟨bj, 0, none⟩), .pointer (some ⟨b5, 0, none⟩)]⟩, ⟨.func 58, #[.pointer (some ⟨bd, 0, none⟩)], #[]⟩, ⟨.func 233, #[], #[.pointer (some ⟨b6, 0, none⟩), .pointer (some ⟨bj, 0, none⟩)]⟩] : List FnV)) (fun x => encV x.val) rfl rfl rfl rfl rfl rfl rfl rfl rfl rfl (Reads.blk .head rfl rfl (fun _ _ => rfl)) (fun _ => rfl) rfl rfl rfl (by simp) (fun p2 n2 c2 => ?_)
    refine sxo_recast (.vec ⟨p2, n2, c2⟩ 76 1 encV (putL bj b5 b6 b9 bd)) .head (fun _ hb => vec_map hb) ?_
    refine sxo_call0 rfl rfl rfl rfl (.cons .head (.skip .all)) (fun Kc hK hB => allJ_ok Kc p2 n2 c2 (putL bj b5 b6 b9 bd) _ (putS bj jb b5 b6 b9 bd name (name ++ dotNew) num sz ct brk room bm st wr sts names ⟨pw, nw, cw⟩ lw M0) rfl (by simp) (fun Kd hd i Y m h1 h2 => putS_step Kd bj jb b5 b6 b9 bd name (name ++ dotNew) num sz ct brk room bm st wr sts names ⟨pw, nw, cw⟩ lw M0 hg1 hg2 hroom hs hn hno hlw hf i Y m h1 h2)) rfl rfl ?_
    rintro v m ⟨rfl, m', hm', rfl⟩
    refine sxo_perm List.perm_append_comm ?_
    have hm2 : putS bj jb b5 b6 b9 bd name (name ++ dotNew) num sz ct brk room bm st wr sts names ⟨pw, nw, cw⟩ lw M0 6 m' := hm'
    simp only [putS] at hm2
    obtain ⟨bm', st', f, a, wr', ha, rfl⟩ := hm2
    simp only [List.cons_append, List.nil_append]
    refine sxo_pure rfl rfl rfl trivial ?_
    refine sxo_end ?_
    refine sx_retL hret hro hk (.tmp rfl .nil) ⟨bm', st', wr', f, a, by omega, rfl, rfl⟩ (by (apply Take.cons; focus exact .tail (.tail (.tail (.tail (.tail (.tail (.tail (.tail (.tail .head))))))))); (apply Take.cons; focus exact .tail (.tail .head)); (apply Take.cons; focus exact .tail (.tail .head)); (apply Take.cons; focus exact .tail (.tail (.tail (.tail (.tail (.tail (.tail .head))))))); (apply Take.cons; focus exact .tail (.tail (.tail (.tail (.tail (.tail (.tail .head))))))); (apply Take.cons; focus exact .tail (.tail (.tail (.tail (.tail (.tail (.tail .head))))))); apply Take.skip; apply Take.skip; apply Take.skip; apply Take.skip; apply Take.skip; apply Take.skip; apply Take.skip; exact .all)
end
end Go.SX

namespace Go.SX
open Go.Proofs
attribute [local irreducible] SX SXo
set_option maxRecDepth 20000
set_option maxHeartbeats 4000000
theorem may_ok (K : Hp) (name : ByteArray) (hg : goodS name = true) : TR Tryz.prog K 120 [.o (.string name)] [] fun v r => v = .s (.o (.bool true)) ∧ r = [] := by
  refine tr_intro Tryz.func120 rfl rfl rfl fun cx hro hk hret => ?_
  refine sx_seq ?_
  refine sx_region ?_
  refine sxo_pure rfl rfl rfl trivial ?_
  refine sxo_end ?_
  refine sx_seq ?_
  refine sx_region ?_
  refine sxo_call0 rfl rfl rfl rfl (by exact .nil) (fun Kc hK hB => filesNew_ok Kc 1 (by omega)) rfl rfl ?_ (hH := by rintro v m ⟨bd, bm, st, q, rfl, rfl⟩; (exact hh_nil))
  rintro v m ⟨bd, bm, st, q, rfl, rfl⟩
  simp only [List.cons_append, List.nil_append, List.append_nil, resV]
  refine sxo_pure rfl rfl rfl trivial ?_
  refine sxo_pure rfl rfl rfl trivial ?_
  refine sxo_pure rfl rfl rfl trivial ?_
  refine sxo_pure rfl rfl rfl trivial ?_
  refine sxo_pure rfl rfl rfl trivial ?_
  refine sxo_end ?_
  refine sx_seq ?_
  refine sx_region ?_
  refine sxo_pure rfl rfl rfl trivial ?_
  refine sxo_pure rfl rfl rfl trivial ?_
  refine sxo_call0 rfl rfl rfl rfl (by (apply Take.cons; focus exact .head); (apply Take.cons; focus exact .head); (apply Take.cons; focus exact .head); exact .nil) (fun Kc hK hB => Create_ok Kc bd 1 bm st ⟨none, 0, 0⟩ [q] [] name hg (by simp) (by simp) rfl) rfl rfl ?_ (hH := by rintro v m ⟨b', st', sts', f, rfl, hst, rfl⟩; (exact hh_nil))
  rintro v m ⟨b', st', sts', f, rfl, hst, rfl⟩
  simp only [List.cons_append, List.nil_append, List.append_nil, resV]
  refine sxo_pure rfl rfl rfl trivial ?_
  refine sxo_pure rfl rfl rfl trivial ?_
  refine sxo_end ?_
  refine sx_retL hret hro hk (.tmp rfl .nil) ⟨rfl, rfl⟩ (by exact .nil)
theorem breaks_ok (K : Hp) (jb bd : Nat) (name : ByteArray) (num sz ct : Int) : TR Tryz.prog K 146 [evPtr jb, .o (.int .i64 0)] [.blk jb 239 (jCh bd name num sz ct false)]
    fun v r => v = .s (.o (.int .i64 0)) ∧ r = [.blk jb 239 (jCh bd name num sz ct false)] := by
  refine tr_intro Tryz.func146 rfl rfl rfl fun cx hro hk hret => ?_
  refine sx_seq ?_
  refine sx_region ?_
  refine sxo_pure rfl rfl rfl trivial ?_
  refine sxo_end ?_
  refine sx_seq ?_
  refine sx_region ?_
  refine sxo_pure rfl rfl rfl trivial ?_
  refine sxo_pure rfl rfl rfl trivial ?_
  refine sxo_pure rfl rfl rfl trivial ?_
  refine sxo_pure rfl rfl rfl trivial ?_
  refine sxo_load rfl rfl rfl (by exact .head) rfl rfl rfl rfl ?_
  refine sxo_pure rfl rfl rfl trivial ?_
  refine sxo_pure rfl rfl rfl trivial ?_
  refine sxo_pure rfl rfl rfl trivial ?_
  refine sxo_pure rfl rfl rfl trivial ?_
  refine sxo_pure rfl rfl rfl trivial ?_
  refine sxo_pure rfl rfl rfl trivial ?_
  refine sxo_store rfl rfl rfl rfl (by exact .head) rfl rfl rfl rfl rfl ?_
  refine sxo_end ?_
  refine sx_seq ?_
  refine sx_region ?_
  refine sxo_pure rfl rfl rfl trivial ?_
  refine sxo_pure rfl rfl rfl trivial ?_
  refine sxo_end ?_
  refine sx_retL hret hro hk (.tmp rfl .nil) ⟨rfl, rfl⟩ (by (apply Take.cons; focus exact .head); exact .nil)
theorem found_ok (K : Hp) : TR Tryz.prog K 124 [.o (.slice none 0 0)] [] fun v r => v = .s (.o (.slice none 0 0)) ∧ r = [] := by
  refine tr_intro Tryz.func124 rfl rfl rfl fun cx hro hk hret => ?_
  refine sx_seq ?_
  refine sx_region ?_
  refine sxo_pure rfl rfl rfl trivial ?_
  refine sxo_end ?_
  refine sx_seq ?_
  refine sx_region ?_
  refine sxo_pure rfl rfl rfl trivial ?_
  refine sxo_pure rfl rfl rfl trivial ?_
  refine sxo_end ?_
  refine sx_seq ?_
  refine sx_seq ?_
  refine sx_region ?_
  refine sxo_pure rfl rfl rfl trivial ?_
  refine sxo_lenV rfl rfl rfl rfl rfl rfl rfl ?_
  refine sxo_pure rfl rfl rfl trivial ?_
  refine sxo_end ?_
  refine sx_condT rfl ?_
  refine sx_seq ?_
  refine sx_region ?_
  refine sxo_pure rfl rfl rfl trivial ?_
  refine sxo_end ?_
  refine sx_retL hret hro hk (.tmp rfl .nil) ⟨rfl, rfl⟩ (by exact .nil)
theorem long_ok (K : Hp) : TR Tryz.prog K 220 [.o (.slice none 0 0)] [] fun v r => v = .t [.o (.int .i64 0), .o (.int .i64 0), .o (.bool false)] ∧ r = [] := by
  refine tr_intro Tryz.func220 rfl rfl rfl fun cx hro hk hret => ?_
  refine sx_seq ?_
  refine sx_region ?_
  refine sxo_pure rfl rfl rfl trivial ?_
  refine sxo_pure rfl rfl rfl trivial ?_
  refine sxo_pure rfl rfl rfl trivial ?_
  refine sxo_end ?_
  refine sx_seq ?_
  refine sx_seq ?_
  refine sx_region ?_
  refine sxo_pure rfl rfl rfl trivial ?_
  refine sxo_end ?_
  refine sx_block ?_
  refine sx_less (by refine .cons rfl ?_; refine .cons rfl ?_; exact .nil _) (by exact .nil) (sx_loopI (γ := Unit) (fun _ => True) (fun _ => 0) (fun _ => [(0, .s (.o (.slice none 0 0))), (5, .s (.o (.int .i64 1)))]) (fun _ => []) (()) (trivial) ?_)
  rintro _ _ _
  refine sx_seq ?_
  refine sx_seq ?_
  refine sx_region ?_
  refine sxo_pure rfl rfl rfl trivial ?_
  refine sxo_pure rfl rfl rfl trivial ?_
  refine sxo_lenV rfl rfl rfl rfl rfl rfl rfl ?_
  refine sxo_min rfl rfl rfl rfl rfl ?_
  refine sxo_pure rfl rfl rfl trivial ?_
  refine sxo_end ?_
  refine sx_condF rfl ?_
  refine sx_exit rfl ?_
  refine sx_seq ?_
  refine sx_region ?_
  refine sxo_pure rfl rfl rfl trivial ?_
  refine sxo_pure rfl rfl rfl trivial ?_
  refine sxo_pure rfl rfl rfl trivial ?_
  refine sxo_end ?_
  refine sx_retL hret hro hk (.tmp rfl (.tmp rfl (.tmp rfl .nil))) ⟨rfl, rfl⟩ (by exact .nil)
theorem records_ok (K : Hp) : TR Tryz.prog K 123 [.o (.slice none 0 0)] []
    fun v r => ∃ b, v = .s (.o (.func (.func 219) #[] #[.pointer (some ⟨b, 0, none⟩)])) ∧ r = [.blk b 38 [.c (.slice none 0 0)]] := by
  refine tr_intro Tryz.func123 rfl rfl rfl fun cx hro hk hret => ?_
  refine sx_seq ?_
  refine sx_region ?_
  refine sxo_box rfl rfl rfl rfl rfl rfl (fun _ => ?_)
  refine sxo_pure rfl rfl rfl trivial ?_
  refine sxo_end ?_
  refine sx_seq ?_
  refine sx_region ?_
  refine sxo_pure rfl rfl rfl trivial ?_
  refine sxo_pure rfl rfl rfl trivial ?_
  refine sxo_end ?_
  refine sx_retL hret hro hk (.tmp rfl .nil) ⟨_, rfl, rfl⟩ (by (apply Take.cons; focus exact .head); exact .nil)
theorem records1_ok (K : Hp) (b : Nat) (Y : Value) (M : List Ent) : TR Tryz.prog K 219 [.o Y, evPtr b] (.blk b 38 [.c (.slice none 0 0)] :: M) fun _ r => r = .blk b 38 [.c (.slice none 0 0)] :: M := by
  refine tr_intro Tryz.func219 rfl rfl rfl fun cx hro hk hret => ?_
  refine sx_block ?_
  refine sx_less (by refine .cons rfl ?_; refine .cons rfl ?_; exact .nil _) .all (sx_loopI (γ := Unit) (fun _ => True) (fun _ => 0) (fun _ => [(0, .s (.o Y)), (1, .s (evPtr b))]) (fun _ => .blk b 38 [.c (.slice none 0 0)] :: M) () trivial ?_)
  rintro _ _ _
  refine sx_block ?_
  refine sx_seq ?_
  refine sx_region ?_
  refine sxo_load rfl rfl rfl (by exact .head) rfl rfl rfl rfl ?_
  refine sxo_call0 rfl rfl rfl rfl .nil (fun Kc hK hB => long_ok Kc) rfl rfl ?_
  rintro v m ⟨rfl, rfl⟩
  simp only [List.nil_append]
  refine sxo_pure rfl rfl rfl trivial ?_
  refine sxo_pure rfl rfl rfl trivial ?_
  refine sxo_pure rfl rfl rfl trivial ?_
  refine sxo_pure rfl rfl rfl trivial ?_
  refine sxo_pure rfl rfl rfl trivial ?_
  refine sxo_pure rfl rfl rfl trivial ?_
  refine sxo_pure rfl rfl rfl trivial ?_
  refine sxo_end ?_
  refine sx_seq ?_
  refine sx_seq ?_
  refine sx_region ?_
  refine sxo_pure rfl rfl rfl trivial ?_
  refine sxo_pure rfl rfl rfl trivial ?_
  refine sxo_pure rfl rfl rfl trivial ?_
  refine sxo_pass rfl rfl rfl ?_
  refine sxo_pass rfl rfl rfl ?_
  refine sxo_pass rfl rfl rfl ?_
  refine sxo_pass rfl rfl rfl ?_
  refine sxo_pass rfl rfl rfl ?_
  refine sxo_pass rfl rfl rfl ?_
  refine sxo_pure rfl rfl rfl trivial ?_
  refine sxo_pure rfl rfl rfl trivial ?_
  refine sxo_pass rfl rfl rfl ?_
  refine sxo_pass rfl rfl rfl ?_
  refine sxo_pass rfl rfl rfl ?_
  refine sxo_pass rfl rfl rfl ?_
  refine sxo_pass rfl rfl rfl ?_
  refine sxo_pass rfl rfl rfl ?_
  refine sxo_pass rfl rfl rfl ?_
  refine sxo_pass rfl rfl rfl ?_
  refine sxo_pass rfl rfl rfl ?_
  refine sxo_pass rfl rfl rfl ?_
  refine sxo_pure rfl rfl rfl trivial ?_
  refine sxo_end ?_
  refine sx_condT rfl ?_
  refine sx_ret hret hro hk .nil rfl
theorem Compact_ok (K : Hp) (jb bd : Nat) (name : ByteArray) (num sz ct : Int) (room : Int) (bm : Nat) (st wr : Sl) (sts : List Nat) (names : List (ByteArray × Option Nat)) (M0 : List Ent)
    (hg1 : goodS name = true) (hg2 : goodS (name ++ dotNew) = true) (hroom : 201000 ≤ room) (hs : sts.length ≤ 100) (hn : names.length ≤ 100) (hno : mget names (name ++ dotNew) = none)
    (hf : ∀ x ∈ names, ∃ g s1 s2' r, x.2 = some g ∧ Pick M0 (.blk g 326 (fileCh s1 s2')) r ∧ s1.n ≤ 1000) :
    TR Tryz.prog K 63 [evPtr jb, .o (.slice none 0 0)] (.blk jb 239 (jCh bd name num sz ct false) :: .blk bd 62 (diskCh room bm st wr) :: .map bm ekStr evPO names :: .vec st 58 1 encMp sts :: .vec wr 370 3 encLate [] :: M0)
    fun v r => ∃ bm' st' wr' f a, a.n = 32 ∧ v = .s (.o (.int .i64 0)) ∧ r = .blk jb 239 (jCh bd name 1 0 0 false) :: .blk bd 62 (diskCh room bm' st' wr') :: .map bm' ekStr evPO (mput (mdel (mput names (name ++ dotNew) (some f)) (name ++ dotNew)) name (some f)) ::
      .vec st' 58 1 encMp [bm'] :: .vec wr' 370 3 encLate [] :: .blk f 326 (fileCh a a) :: M0 := by
  refine tr_intro Tryz.func63 rfl rfl rfl fun cx hro hk hret => ?_
  refine sx_seq ?_
  refine sx_region ?_
  refine sxo_pure rfl rfl rfl trivial ?_
  refine sxo_end ?_
  refine sx_seq ?_
  refine sx_seq ?_
  refine sx_region ?_
  refine sxo_pure rfl rfl rfl trivial ?_
  refine sxo_pure rfl rfl rfl trivial ?_
  refine sxo_pure rfl rfl rfl trivial ?_
  refine sxo_load rfl rfl rfl (by exact .head) rfl rfl rfl rfl ?_
  refine sxo_end ?_
  refine sx_condF rfl ?_
  refine sx_skip ?_
  refine sx_seq ?_
  refine sx_region ?_
  refine sxo_pure rfl rfl rfl trivial ?_
  refine sxo_end ?_
  refine sx_seq ?_
  refine sx_seq ?_
  refine sx_region ?_
  refine sxo_pure rfl rfl rfl trivial ?_
  refine sxo_lenV rfl rfl rfl rfl rfl rfl rfl ?_
  refine sxo_pure rfl rfl rfl trivial ?_
  refine sxo_end ?_
  refine sx_block ?_
  refine sx_less (by refine .cons rfl ?_; refine .cons rfl ?_; refine .cons rfl ?_; refine .cons rfl ?_; refine .cons rfl ?_; exact .nil _) .all (sx_loopI (γ := Unit) (fun _ => True) (fun _ => 0) (fun _ => [(0, .s (evPtr jb)), (1, .s (.o (.slice none 0 0))), (5, .s (.o (.int .i64 0))), (13, .s (.o (.int .i64 (0 : Nat)))), (14, .s (.o (.int .i64 0)))]) (fun _ => .blk jb 239 (jCh bd name num sz ct false) :: .blk bd 62 (diskCh room bm st wr) :: .map bm ekStr evPO names :: .vec st 58 1 encMp sts :: .vec wr 370 3 encLate [] :: M0) () trivial ?_)
  rintro _ _ _
  refine sx_seq ?_
  refine sx_region ?_
  refine sxo_pure rfl rfl rfl trivial ?_
  refine sxo_end ?_
  refine sx_seq ?_
  refine sx_condF rfl ?_
  refine sx_exit rfl ?_
  refine sx_seq ?_
  refine sx_seq ?_
  refine sx_region ?_
  refine sxo_pure rfl rfl rfl trivial ?_
  refine sxo_pure rfl rfl rfl trivial ?_
  refine sxo_end ?_
  refine sx_condF rfl ?_
  refine sx_skip ?_
  refine sx_seq ?_
  refine sx_region ?_
  refine sxo_pure rfl rfl rfl trivial ?_
  refine sxo_pure rfl rfl rfl trivial ?_
  refine sxo_pure rfl rfl rfl trivial ?_
  refine sxo_call0 rfl rfl rfl rfl .all (fun Kc hK hB => put_ok Kc jb bd name num sz ct false room bm st wr sts names M0 hg1 hg2 hroom hs hn hno hf) rfl rfl ?_
  rintro v m ⟨bm', st', wr', f, a, ha, rfl, rfl⟩
  simp only [List.append_nil]
  skip
  refine sxo_call0 rfl rfl rfl rfl (.cons .head .nil) (fun Kc hK hB => breaks_ok Kc jb bd name 1 0 0) rfl rfl ?_
  rintro v m ⟨rfl, rfl⟩
  simp only [List.cons_append, List.nil_append]
  refine sxo_pure rfl rfl rfl trivial ?_
  refine sxo_end ?_
  refine sx_ret hret hro hk (.tmp rfl .nil) ⟨bm', st', wr', f, a, ha, rfl, rfl⟩
end Go.SX
