/-
  node: its parts folded, and Open on an empty disk.
  node: Open on an empty disk.
  node: Open on an empty disk, whole.
  More rules: clear of a map.
  node: a moment of a node that pulls nothing.
  node: Tick of a node that pulls nothing.
-/
import Derived.Test.YtbeokgkcndcahaaGreatDoorQ20
import Derived.KernelRfl
import Derived.Test.YtbeokgkcndcahaaGreatDoorQ13
set_option linter.all false
namespace Go.SX
open Go.Proofs
attribute [local irreducible] SX SXo
set_option maxRecDepth 20000
set_option maxHeartbeats 4000000
/-- A contract told of folded entries. -/
theorem TR.obj {P : Program} {K : Hp} {f : FuncId} {args : List SV1} {γ : Type} {I : γ → Prop} {F : γ → List Ent} {r : List Ent} {Q : γ → SV → List Ent → Prop} {Q' : SV → List Ent → Prop} (x0 : γ) (h0 : I x0) (h : ∀ x, I x → TR P K f args (F x ++ r) (Q x))
    (hq : ∀ x v m, I x → Q x v m → ∃ (γ' : Type) (I' : γ' → Prop) (F' : γ' → List Ent) (x' : γ') (r' : List Ent), I' x' ∧ m.Perm (F' x' ++ r') ∧ Q' v (obj I' F' :: r')) : TR P K f args (obj I F :: r) Q' :=
  ⟨(h x0 h0).can, fun w s => by
    obtain ⟨x, hx, hm⟩ := s.open
    refine ((h x hx).run w hm).mono ?_
    rintro _ w' ⟨v, m, e, q, hm', ho⟩
    obtain ⟨γ', I', F', x', r', hi, hp, q'⟩ := hq x v m hx q
    exact ⟨v, _, e, q', (hm'.perm hp).fold hi, ho⟩⟩
structure DK where
  bd : Nat
  bg : Nat
  bm : Nat
  f : Nat
  room : Int
  quota : Int
  st : Sl
  wr : Sl
def diskF (bs : Nat) (x : DK) : List Ent := [.blk bs 120 (storeCh x.bd x.quota x.bg), .blk x.bd 62 (diskCh x.room x.bm x.st x.wr), .map x.bm ekStr evPO [(kP, some x.f)]]
/-- The store and the disk, on which pieces' journal lies alone. -/
def diskO (bs : Nat) : Ent := obj (fun _ => True) (diskF bs)
def tabF (bt : Nat) (x : Nat × Nat) : List Ent := [.blk bt 131 (tableCh x.1 x.2)]
def tabO (bt : Nat) : Ent := obj (fun _ => True) (tabF bt)
def viewF (bv : Nat) (m : List (Int × Member)) (x : Member × Nat) : List Ent := [.blk bv 143 (viewCh x.1 5 x.2), .map x.2 ekInt evM m]
/-- A view, by whom it knows. -/
def viewO (bv : Nat) (m : List (Int × Member)) : Ent := obj (fun _ => True) (viewF bv m)
def bookF (bb : Nat) (x : Nat) : List Ent := [.blk bb 146 (bookCh x), .map x ekInt evKnown []]
def bookO (bb : Nat) : Ent := obj (fun _ => True) (bookF bb)
theorem imgNo (f : Nat) (s : ByteArray) : mget [(kP, some f)] (kI ++ s) = none := by
  have : ¬ kP = kI ++ s := fun h => by
    have h1 := congrArg (fun b : ByteArray => b.data.toList.head?) h
    simp [kP, kI] at h1
  simp [mget, this]
theorem blobNo (f : Nat) (s : ByteArray) : mget [(kP, some f)] (kB ++ s) = none := by
  have : ¬ kP = kB ++ s := fun h => by
    have h1 := congrArg (fun b : ByteArray => b.data.toList.head?) h
    simp [kP, kB] at h1
  simp [mget, this]
def z0 : DK := ⟨0, 0, 0, 0, 0, 0, ⟨none, 0, 0⟩, ⟨none, 0, 0⟩⟩
theorem ImageO (K : Hp) (bs : Nat) (D : Dig) : TR Tryz.prog K 111 [evPtr bs, .g [.d D]] [diskO bs] fun v r => v = .t [.g [.c (.slice none 0 0)], .o (.bool false)] ∧ r = [diskO bs] :=
  TR.obj (r := []) z0 trivial (fun x _ => Image_ok K bs x.bd x.bg x.quota x.room x.bm x.st x.wr _ D (imgNo x.f)) fun x v m _ q => ⟨_, _, _, x, [], trivial, .of_eq q.2, q.1, rfl⟩
theorem HasO (K : Hp) (bs : Nat) (D : Dig) : TR Tryz.prog K 77 [evPtr bs, .g [.d D]] [diskO bs] fun v r => v = .s (.o (.bool false)) ∧ r = [diskO bs] :=
  TR.obj (r := []) z0 trivial (fun x _ => Has_ok K bs x.bd x.bg x.quota x.room x.bm x.st x.wr _ D (blobNo x.f)) fun x v m _ q => ⟨_, _, _, x, [], trivial, .of_eq q.2, q.1, rfl⟩
theorem ImagesO (K : Hp) (bs : Nat) : TR Tryz.prog K 43 [evPtr bs] [diskO bs] fun v r => v = .s (.o (.slice none 0 0)) ∧ r = [diskO bs] :=
  TR.obj (r := []) z0 trivial (fun x _ => Images_ok K bs x.bd x.bg x.quota x.room x.bm x.st x.wr x.f) fun x v m _ q => ⟨_, _, _, x, [], trivial, .of_eq q.2, q.1, rfl⟩
theorem BlobsO (K : Hp) (bt : Nat) : TR Tryz.prog K 44 [evPtr bt] [tabO bt] fun v r => v = .s (.o (.slice none 0 0)) ∧ r = [tabO bt] :=
  TR.obj (r := []) (0, 0) trivial (fun x _ => Blobs_ok K bt x.1 x.2) fun x v m _ q => ⟨_, _, _, x, [], trivial, .of_eq q.2, q.1, rfl⟩
theorem ExpireO (K : Hp) (b : Nat) (now : Int) (hn : 0 ≤ now ∧ now ≤ 1099511627776) : TR Tryz.prog K 29 [evPtr b, .o (.int .i64 now)] [bookO b] fun _ r => r = [bookO b] :=
  TR.obj (r := []) 0 trivial (fun x _ => bookExpire_ok K b x now hn) fun x v m _ q => ⟨_, _, _, x, [], trivial, .of_eq q, rfl⟩
theorem BannedO (K : Hp) (b : Nat) (id now : Int) : TR Tryz.prog K 38 [evPtr b, .o (.int .i64 id), .o (.int .i64 now)] [bookO b] fun v r => v = .s (.o (.bool false)) ∧ r = [bookO b] :=
  TR.obj (r := []) 0 trivial (fun x _ => bookBanned_ok K b x id now) fun x v m _ q => ⟨_, _, _, x, [], trivial, .of_eq q.2, q.1, rfl⟩
theorem TickO (K : Hp) (bv : Nat) (m : List (Int × Member)) (hm : m.length ≤ 1000000) (hv : VOk m) (now pat : Int) (hn : 0 ≤ now ∧ now ≤ 1099511627776) (hp : 1 ≤ pat ∧ pat ≤ 1048576) : TR Tryz.prog K 30 [evPtr bv, .o (.int .i64 now), .o (.int .i64 pat)] [viewO bv m]
    fun _ r => ∃ m', VOk m' ∧ m'.length ≤ m.length ∧ r = [viewO bv m'] :=
  TR.obj (r := []) (⟨0, 0, 0, 0⟩, 0) trivial (fun x _ => viewTick_ok K bv x.2 x.1 5 m hm hv now pat hn hp) fun x v _ _ ⟨m', h1, h2, e⟩ => ⟨_, _, _, x, [], trivial, .of_eq e, m', h1, h2, rfl⟩
theorem HearO (K : Hp) (bv : Nat) (m : List (Int × Member)) (hml : m.length ≤ 5) (hv : VOk m) (x : Member) (now : Int) : TR Tryz.prog K 99 [evPtr bv, evM x, .o (.int .i64 now)] [viewO bv m]
    fun _ r => ∃ m', VOk m' ∧ m'.length ≤ 5 ∧ r = [viewO bv m'] :=
  TR.obj (r := []) (⟨0, 0, 0, 0⟩, 0) trivial (fun y _ => Hear_ok K bv y.2 y.1 5 m (by decide) (by omega) hv x now) fun y v _ _ ⟨s', m', h1, h2, e⟩ => ⟨_, _, _, (s', y.2), [], trivial, .of_eq e, m', h1, by omega, rfl⟩
theorem ProbeO (K : Hp) (bv : Nat) (m : List (Int × Member)) (hm : m.length ≤ 1000000) (seed : Int) : TR Tryz.prog K 34 [evPtr bv, .o (.int .u64 seed)] [viewO bv m]
    fun v r => ∃ id b, v = .t [.o (.int .i64 id), .o (.bool b)] ∧ r = [viewO bv m] ∧ (b = true → 0 < m.length) :=
  TR.obj (r := []) (⟨0, 0, 0, 0⟩, 0) trivial (fun y _ => Probe_ok K bv y.2 y.1 5 m hm seed) fun y v _ _ ⟨id, b, h1, e, h2⟩ => ⟨_, _, _, y, [], trivial, .of_eq e, id, b, h1, rfl, h2⟩
theorem GossipO (K : Hp) (bv : Nat) (m : List (Int × Member)) (hm : m.length ≤ 1000000) (kk seed : Int) : TR Tryz.prog K 35 [evPtr bv, .o (.int .i64 kk), .o (.int .u64 seed)] [viewO bv m]
    fun v r => ∃ p n c, ∃ l : List Member, l.length ≤ m.length + 1 ∧ v = .s (.o (.slice p n c)) ∧ r = [viewO bv m, .vec ⟨p, n, c⟩ 101 4 encM l] :=
  TR.obj (r := []) (⟨0, 0, 0, 0⟩, 0) trivial (fun y _ => Gossip_ok K bv y.2 y.1 5 m hm kk seed) fun y v _ _ ⟨p, n, c, l, h1, h2, e⟩ => ⟨_, _, _, y, [.vec ⟨p, n, c⟩ 101 4 encM l], trivial, (List.Perm.of_eq e).trans (List.perm_append_comm (l₁ := [_]) (l₂ := viewF bv m y)), p, n, c, l, h1, h2, rfl⟩
theorem AllO (K : Hp) (bv : Nat) (m : List (Int × Member)) (hm : m.length ≤ 1000000) : TR Tryz.prog K 36 [evPtr bv] [viewO bv m]
    fun v r => ∃ p n c, ∃ l : List Member, l.length = m.length ∧ v = .s (.o (.slice p n c)) ∧ r = [viewO bv m, .vec ⟨p, n, c⟩ 101 4 encM l] :=
  TR.obj (r := []) (⟨0, 0, 0, 0⟩, 0) trivial (fun y _ => All_ok K bv y.2 y.1 5 m hm) fun y v _ _ ⟨p, n, c, ks, h1, h2, e⟩ => ⟨_, _, _, y, [.vec ⟨p, n, c⟩ 101 4 encM (ks.map fun k => (mget m k).getD Member.z)], trivial, (List.Perm.of_eq e).trans (List.perm_append_comm (l₁ := [_]) (l₂ := viewF bv m y)), p, n, c, _, by have := h1.length_eq; simpa using this, h2, rfl⟩
end Go.SX

namespace Go.SX
open Go.Proofs
section
variable {P : Program} {N : Nat} {cx : Cx P N} {K : Hp} {ds : List Deferred} {k : List Item} {env : Env} {mem : List Ent} {body : Code}
/-- A loop's rounds, one by one. -/
theorem sx_loop1 (h : SX cx K ds (.code body :: .inLoop body :: k) env mem) : SX cx K ds (.code (.loop body) :: k) env mem := fun a w s => cx.step stepR_loop (h a w s)
theorem sx_again1 (h : SX cx K ds (.code body :: .inLoop body :: k) env mem) : SX cx K ds (.inLoop body :: k) env mem := fun a w s => cx.step stepR_inLoop (h a w s)
end
attribute [local irreducible] SX SXo
set_option maxRecDepth 20000
set_option maxHeartbeats 4000000
abbrev ad (b : Nat) : Addr := ⟨b, 0, none⟩
@[reducible] def setCh : List Ch := [.c (.int .i64 1048576), .c (.int .i64 5), .c (.int .i64 4), .c (.int .i64 2), .c (.int .i64 5), .c (.int .i64 2), .c (.int .i64 20), .c (.int .i64 2)]
@[reducible] def nodeCh (ps pt pv pb pw : Option Addr) (pl : Sl) (sw gv : Nat) (brk : Bool) : List Ch :=
  [.c (.int .i64 7), .c (.int .i64 1048576), .c (.int .i64 5), .c (.int .i64 4), .c (.int .i64 2), .c (.int .i64 5), .c (.int .i64 2), .c (.int .i64 20), .c (.int .i64 2),
   .c (.pointer ps), .c (.pointer pt), .c (.pointer pv), .c (.pointer pb), .c (.pointer pw), .c pl.v, .c (.map (some sw)), .c (.map (some gv)), .c (.bool brk)]
theorem nodeWithin_t (K : Hp) (n lo hi : Int) (h : lo ≤ n ∧ n ≤ hi) : TR Tryz.prog K 16 [.o (.int .i64 n), .o (.int .i64 lo), .o (.int .i64 hi)] []
    fun v r => v = .s (.o (.bool true)) ∧ r = [] := by
  refine tr_intro Tryz.func16 rfl rfl rfl fun cx hro hk hret => ?_
  refine sx_seq ?_
  refine sx_region ?_
  refine sxo_pure rfl rfl rfl trivial ?_
  refine sxo_end ?_
  refine sx_seq ?_
  refine sx_region ?_
  refine sxo_pure rfl rfl rfl trivial ?_
  refine sxo_pure rfl rfl rfl trivial ?_
  refine sxo_pure rfl rfl rfl trivial ?_
  refine sxo_pure rfl rfl rfl trivial ?_
  refine sxo_split (t := 10) rfl (fun h1 => ?_) (fun h1 => ?_)
  · refine sxo_pure rfl rfl rfl trivial ?_
    refine sxo_pure rfl rfl rfl trivial ?_
    refine sxo_pure rfl rfl rfl trivial ?_
    refine sxo_pure rfl rfl rfl trivial ?_
    refine sxo_pure rfl rfl rfl trivial ?_
    refine sxo_end ?_
    refine sx_retL hret hro hk (.tmp rfl .nil) ⟨by simp [h.2, resV], rfl⟩ (by exact .nil)
  · simp at h1; omega
theorem nodeSwarm_ok (K : Hp) (bn : Nat) (ps pt pv pb pw : Option Addr) (pl : Sl) (sw gv : Nat) (brk : Bool) : TR Tryz.prog K 28 [evPtr bn, .o (.int .i64 1)] [.blk bn 73 (nodeCh ps pt pv pb pw pl sw gv brk)]
    fun v r => (∃ p, v = .t [evPtr p, .o (.int .i64 0)]) ∧ r = [.blk bn 73 (nodeCh ps pt pv pb pw pl sw gv brk)] := by
  refine tr_intro Tryz.func28 rfl rfl rfl fun cx hro hk hret => ?_
  refine sx_seq ?_
  refine sx_region ?_
  refine sxo_pure rfl rfl rfl trivial ?_
  refine sxo_pure rfl rfl rfl trivial ?_
  refine sxo_end ?_
  refine sx_seq ?_
  refine sx_drawN 1 (by kernel_rfl) [0, 1, 2, 3, 4, 5, 6, 7, 8, 9, 10, 11, 12, 13, 14, 15, 16, 17, 18, 19, 20, 21, 22, 23, 24, 25] [] (by kernel_rfl) ?_
  refine sxo_pure rfl rfl rfl trivial ?_
  refine sxo_pure rfl rfl rfl trivial ?_
  refine sxo_pure rfl rfl rfl trivial ?_
  refine sxo_pure rfl rfl rfl trivial ?_
  refine sxo_pure rfl rfl rfl trivial ?_
  refine sxo_load rfl rfl rfl (by exact .head) rfl rfl rfl rfl ?_
  refine sxo_pure rfl rfl rfl trivial ?_
  refine sxo_pure rfl rfl rfl trivial ?_
  refine sxo_pure rfl rfl rfl trivial ?_
  refine sxo_pure rfl rfl rfl trivial ?_
  refine sxo_load rfl rfl rfl (by exact .head) rfl rfl rfl rfl ?_
  refine sxo_pure rfl rfl rfl trivial ?_
  refine sxo_pure rfl rfl rfl trivial ?_
  refine sxo_pure rfl rfl rfl trivial ?_
  refine sxo_pure rfl rfl rfl trivial ?_
  refine sxo_load rfl rfl rfl (by exact .head) rfl rfl rfl rfl ?_
  refine sxo_pure rfl rfl rfl trivial ?_
  refine sxo_pure rfl rfl rfl trivial ?_
  refine sxo_pure rfl rfl rfl trivial ?_
  refine sxo_pure rfl rfl rfl trivial ?_
  refine sxo_load rfl rfl rfl (by exact .head) rfl rfl rfl rfl ?_
  refine sxo_call0 rfl rfl rfl rfl (by exact .nil) (fun Kc hK hB => connNew_ok Kc) rfl rfl ?_ (hH := by rintro v m ⟨b, rfl, rfl⟩; (exact hh_nil))
  rintro v m ⟨b, rfl, rfl⟩
  simp only [List.cons_append, List.nil_append, List.append_nil, resV]
  refine sxo_pure rfl rfl rfl trivial ?_
  refine sxo_pure rfl rfl rfl trivial ?_
  refine sxo_pure rfl rfl rfl trivial ?_
  refine sxo_pure rfl rfl rfl trivial ?_
  refine sxo_end ?_
  refine sx_retL hret hro hk (.tmp rfl (.tmp rfl .nil)) ⟨⟨b, rfl⟩, rfl⟩ (by (apply Take.cons; focus exact .head); exact .nil)
section
variable (K : Hp) (b3 b4 b5 b8 bn bd : Nat) (sw gv : Nat)
@[reducible] def nilS : Sl := ⟨none, 0, 0⟩
theorem nOpen1_ok (room : Int) (bm : Nat) (st wr : Sl) : TR Tryz.prog K 17 [evPtr b4, evPtr b5, evPtr b8] [.blk b4 25 [.c (.pointer (some (ad bd)))], .blk b5 33 setCh, .blk b8 29 [.c (.pointer (some (ad bn)))], .blk bn 73 (nodeCh none none none none none nilS sw gv false), .blk bd 62 (diskCh room bm st wr), .map bm ekStr evPO []]
    fun v r => ∃ bs bg, v = .s (.o (.int .i64 0)) ∧ r = [.blk b4 25 [.c (.pointer (some (ad bd)))], .blk b5 33 setCh, .blk b8 29 [.c (.pointer (some (ad bn)))], .blk bn 73 (nodeCh (some (ad bs)) none none none none nilS sw gv false), .blk bs 120 (storeCh bd 1048576 bg), .blk bd 62 (diskCh room bm st wr), .map bm ekStr evPO []] := by
  refine tr_intro Tryz.func17 rfl rfl rfl fun cx hro hk hret => ?_
  refine sx_seq ?_
  refine sx_region ?_
  refine sxo_pure rfl rfl rfl trivial ?_
  refine sxo_end ?_
  refine sx_seq ?_
  refine sx_drawN 1 (by kernel_rfl) [0, 1, 2, 3, 4, 5, 6, 7, 8, 9, 10, 11] [(0, 4)] (by kernel_rfl) ?_
  refine sxo_loadF rfl rfl rfl (by exact .tail (.tail .head)) rfl rfl rfl ?_
  refine sxo_load rfl rfl rfl (by exact .head) rfl rfl rfl rfl ?_
  refine sxo_pure rfl rfl rfl trivial ?_
  refine sxo_load rfl rfl rfl (by exact .tail .head) rfl rfl rfl rfl ?_
  refine sxo_call0 rfl rfl rfl rfl (by (apply Take.cons; focus exact .tail (.tail (.tail (.tail .head)))); (apply Take.cons; focus exact .tail (.tail (.tail (.tail .head)))); exact .nil) (fun Kc hK hB => blobsOpen_ok Kc bd room bm st wr 1048576 (by decide)) rfl rfl ?_ (hH := by rintro v m ⟨bs, bg, rfl, rfl⟩; (refine hh_chk ⟨_, _, _, (by exact .tail (.tail (.tail (.tail (.tail .head))))), (by rfl)⟩ ?_; exact hh_nil))
  rintro v m ⟨bs, bg, rfl, rfl⟩
  simp only [List.cons_append, List.nil_append, List.append_nil, resV]
  refine sxo_pure rfl rfl rfl trivial ?_
  refine sxo_pure rfl rfl rfl trivial ?_
  refine sxo_pure rfl rfl rfl trivial ?_
  refine sxo_pure rfl rfl rfl trivial ?_
  refine sxo_pure rfl rfl rfl trivial ?_
  refine sxo_store rfl rfl rfl rfl (by exact .tail (.tail (.tail (.tail (.tail (.tail .head)))))) rfl rfl rfl rfl rfl ?_
  refine sxo_pure rfl rfl rfl trivial ?_
  refine sxo_end ?_
  refine sx_retL hret hro hk (.tmp rfl .nil) ⟨bs, bg, rfl, rfl⟩ (by (apply Take.cons; focus exact .tail (.tail (.tail (.tail .head)))); (apply Take.cons; focus exact .tail (.tail (.tail (.tail .head)))); (apply Take.cons; focus exact .tail (.tail (.tail (.tail .head)))); (apply Take.cons; focus exact .head); (apply Take.cons; focus exact .head); (apply Take.cons; focus exact .head); (apply Take.cons; focus exact .head); exact .nil)
theorem nOpen2_ok (bs bg : Nat) (room : Int) (bm : Nat) (st : Sl) (sts : List Nat) (hroom : 201000 ≤ room) (hs : sts.length ≤ 100) : TR Tryz.prog K 19 [evPtr b4, evPtr b8] [.blk b4 25 [.c (.pointer (some (ad bd)))], .blk b8 29 [.c (.pointer (some (ad bn)))], .blk bn 73 (nodeCh (some (ad bs)) none none none none nilS sw gv false), .blk bs 120 (storeCh bd 1048576 bg), .blk bd 62 (diskCh room bm st ⟨none, 0, 0⟩), .map bm ekStr evPO [], .vec st 58 1 encMp sts]
    fun v r => ∃ bt, v = .s (.o (.int .i64 0)) ∧ r = [.blk b4 25 [.c (.pointer (some (ad bd)))], .blk b8 29 [.c (.pointer (some (ad bn)))], .blk bn 73 (nodeCh (some (ad bs)) (some (ad bt)) none none none nilS sw gv false), tabO bt, diskO bs] := by
  refine tr_intro Tryz.func19 rfl rfl rfl fun cx hro hk hret => ?_
  refine sx_seq ?_
  refine sx_region ?_
  refine sxo_pure rfl rfl rfl trivial ?_
  refine sxo_end ?_
  refine sx_seq ?_
  refine sx_drawN 1 (by kernel_rfl) [0, 1, 2, 3, 4, 5, 6, 7, 8, 9, 10, 11, 12, 13] [(0, 6)] (by kernel_rfl) ?_
  refine sxo_loadF rfl rfl rfl (by exact .tail .head) rfl rfl rfl ?_
  refine sxo_load rfl rfl rfl (by exact .head) rfl rfl rfl rfl ?_
  refine sxo_load rfl rfl rfl (by exact .tail .head) rfl rfl rfl rfl ?_
  refine sxo_pure rfl rfl rfl trivial ?_
  refine sxo_pure rfl rfl rfl trivial ?_
  refine sxo_load rfl rfl rfl (by exact .tail (.tail .head)) rfl rfl rfl rfl ?_
  refine sxo_call0 rfl rfl rfl rfl (by (apply Take.cons; focus exact .tail (.tail (.tail (.tail .head)))); (apply Take.cons; focus exact .tail (.tail (.tail (.tail .head)))); (apply Take.cons; focus exact .tail (.tail (.tail (.tail .head)))); (apply Take.cons; focus exact .tail (.tail (.tail .head))); exact .nil) (fun Kc hK hB => piecesOpen_ok Kc bd bs bg 1048576 room bm st sts hroom hs) rfl rfl ?_ (hH := by rintro v m ⟨bt, jb, bm', st', wr', f, rfl, rfl⟩; (refine hh_chk ⟨_, _, _, (by exact .tail (.tail (.tail (.tail (.tail .head))))), (by rfl)⟩ ?_; exact hh_nil))
  rintro v m ⟨bt, jb, bm', st', wr', f, rfl, rfl⟩
  simp only [List.cons_append, List.nil_append, List.append_nil, resV]
  refine sxo_fold (f := diskF bs) ⟨bd, bg, bm', f, room, 1048576, st', wr'⟩ (I := fun _ => True) trivial (by (apply Take.cons; focus exact .tail .head); (apply Take.cons; focus exact .tail .head); (apply Take.cons; focus exact .tail .head); exact .nil) ?_
  refine sxo_fold (f := tabF bt) (bs, jb) (I := fun _ => True) trivial (by (apply Take.cons; focus exact .tail .head); exact .nil) ?_
  refine sxo_pure rfl rfl rfl trivial ?_
  refine sxo_pure rfl rfl rfl trivial ?_
  refine sxo_pure rfl rfl rfl trivial ?_
  refine sxo_pure rfl rfl rfl trivial ?_
  refine sxo_pure rfl rfl rfl trivial ?_
  refine sxo_store rfl rfl rfl rfl (by exact .tail (.tail (.tail (.tail .head)))) rfl rfl rfl rfl rfl ?_
  refine sxo_pure rfl rfl rfl trivial ?_
  refine sxo_end ?_
  refine sx_retL hret hro hk (.tmp rfl .nil) ⟨bt, rfl, rfl⟩ (by (apply Take.cons; focus exact .tail (.tail (.tail .head))); (apply Take.cons; focus exact .tail (.tail (.tail .head))); (apply Take.cons; focus exact .head); (apply Take.cons; focus exact .head); (apply Take.cons; focus exact .head); exact .nil)
theorem nOpen3_ok (ps pt : Option Addr) : TR Tryz.prog K 21 [evPtr b3, evPtr b5, evPtr b8] [.blk b3 3 [.c (.int .i64 7)], .blk b5 33 setCh, .blk b8 29 [.c (.pointer (some (ad bn)))], .blk bn 73 (nodeCh ps pt none none none nilS sw gv false)]
    fun v r => ∃ bv, v = .s (.o (.int .i64 0)) ∧ r = [.blk b3 3 [.c (.int .i64 7)], .blk b5 33 setCh, .blk b8 29 [.c (.pointer (some (ad bn)))], .blk bn 73 (nodeCh ps pt (some (ad bv)) none none nilS sw gv false), viewO bv []] := by
  refine tr_intro Tryz.func21 rfl rfl rfl fun cx hro hk hret => ?_
  refine sx_seq ?_
  refine sx_region ?_
  refine sxo_pure rfl rfl rfl trivial ?_
  refine sxo_end ?_
  refine sx_seq ?_
  refine sx_drawN 1 (by kernel_rfl) [0, 1, 2, 3, 4, 5, 6, 7, 8, 9, 10, 11] [(0, 4)] (by kernel_rfl) ?_
  refine sxo_loadF rfl rfl rfl (by exact .tail (.tail .head)) rfl rfl rfl ?_
  refine sxo_load rfl rfl rfl (by exact .head) rfl rfl rfl rfl ?_
  refine sxo_pure rfl rfl rfl trivial ?_
  refine sxo_load rfl rfl rfl (by exact .tail .head) rfl rfl rfl rfl ?_
  refine sxo_call0 rfl rfl rfl rfl (by exact .nil) (fun Kc hK hB => memberNew_ok Kc 7 5 (by decide) (by decide)) rfl rfl ?_ (hH := by rintro v m ⟨bv, bm, rfl, rfl⟩; (refine hh_chk ⟨_, _, _, (by exact .tail (.tail (.tail (.tail .head)))), (by rfl)⟩ ?_; exact hh_nil))
  rintro v m ⟨bv, bm, rfl, rfl⟩
  simp only [List.cons_append, List.nil_append, List.append_nil, resV]
  refine sxo_fold (f := viewF bv []) (⟨7, 0, 1, 0⟩, bm) (I := fun _ => True) trivial (by (apply Take.cons; focus exact .head); (apply Take.cons; focus exact .head); exact .nil) ?_
  refine sxo_pure rfl rfl rfl trivial ?_
  refine sxo_pure rfl rfl rfl trivial ?_
  refine sxo_pure rfl rfl rfl trivial ?_
  refine sxo_pure rfl rfl rfl trivial ?_
  refine sxo_pure rfl rfl rfl trivial ?_
  refine sxo_store rfl rfl rfl rfl (by exact .tail (.tail (.tail (.tail .head)))) rfl rfl rfl rfl rfl ?_
  refine sxo_pure rfl rfl rfl trivial ?_
  refine sxo_end ?_
  refine sx_retL hret hro hk (.tmp rfl .nil) ⟨bv, rfl, rfl⟩ (by (apply Take.cons; focus exact .tail (.tail .head)); (apply Take.cons; focus exact .tail (.tail .head)); (apply Take.cons; focus exact .tail (.tail .head)); (apply Take.cons; focus exact .head); (apply Take.cons; focus exact .head); exact .nil)
theorem nOpen4_ok (ps pt pv : Option Addr) : TR Tryz.prog K 23 [evPtr b5, evPtr b8] [.blk b5 33 setCh, .blk b8 29 [.c (.pointer (some (ad bn)))], .blk bn 73 (nodeCh ps pt pv none none nilS sw gv false)]
    fun v r => ∃ bb, v = .s (.o (.int .i64 0)) ∧ r = [.blk b5 33 setCh, .blk b8 29 [.c (.pointer (some (ad bn)))], .blk bn 73 (nodeCh ps pt pv (some (ad bb)) none nilS sw gv false), bookO bb] := by
  refine tr_intro Tryz.func23 rfl rfl rfl fun cx hro hk hret => ?_
  refine sx_seq ?_
  refine sx_region ?_
  refine sxo_pure rfl rfl rfl trivial ?_
  refine sxo_end ?_
  refine sx_seq ?_
  refine sx_drawN 1 (by kernel_rfl) [0, 1, 2, 3, 4, 5, 6, 7, 8, 9, 10, 11, 12, 13, 14] [(0, 7)] (by kernel_rfl) ?_
  refine sxo_loadF rfl rfl rfl (by exact .tail .head) rfl rfl rfl ?_
  refine sxo_pure rfl rfl rfl trivial ?_
  refine sxo_load rfl rfl rfl (by exact .head) rfl rfl rfl rfl ?_
  refine sxo_pure rfl rfl rfl trivial ?_
  refine sxo_load rfl rfl rfl (by exact .head) rfl rfl rfl rfl ?_
  refine sxo_pure rfl rfl rfl trivial ?_
  refine sxo_load rfl rfl rfl (by exact .head) rfl rfl rfl rfl ?_
  refine sxo_call0 rfl rfl rfl rfl (by exact .nil) (fun Kc hK hB => strikesNew_ok Kc) rfl rfl ?_ (hH := by rintro v m ⟨bb, bbm, rfl, rfl⟩; (refine hh_chk ⟨_, _, _, (by exact .tail (.tail (.tail .head))), (by rfl)⟩ ?_; exact hh_nil))
  rintro v m ⟨bb, bbm, rfl, rfl⟩
  simp only [List.cons_append, List.nil_append, List.append_nil, resV]
  refine sxo_fold (f := bookF bb) bbm (I := fun _ => True) trivial (by (apply Take.cons; focus exact .head); (apply Take.cons; focus exact .head); exact .nil) ?_
  refine sxo_pure rfl rfl rfl trivial ?_
  refine sxo_pure rfl rfl rfl trivial ?_
  refine sxo_pure rfl rfl rfl trivial ?_
  refine sxo_pure rfl rfl rfl trivial ?_
  refine sxo_pure rfl rfl rfl trivial ?_
  refine sxo_store rfl rfl rfl rfl (by exact .tail (.tail (.tail .head))) rfl rfl rfl rfl rfl ?_
  refine sxo_pure rfl rfl rfl trivial ?_
  refine sxo_end ?_
  refine sx_retL hret hro hk (.tmp rfl .nil) ⟨bb, rfl, rfl⟩ (by (apply Take.cons; focus exact .tail (.tail .head)); (apply Take.cons; focus exact .tail (.tail .head)); (apply Take.cons; focus exact .head); (apply Take.cons; focus exact .head); exact .nil)
theorem nOpen5_ok (ps pt pv pb : Option Addr) : TR Tryz.prog K 25 [evPtr b5, evPtr b8] [.blk b5 33 setCh, .blk b8 29 [.c (.pointer (some (ad bn)))], .blk bn 73 (nodeCh ps pt pv pb none nilS sw gv false)]
    fun v r => ∃ bw, v = .s (.o (.int .i64 0)) ∧ r = [.blk b5 33 setCh, .blk b8 29 [.c (.pointer (some (ad bn)))], .blk bn 73 (nodeCh ps pt pv pb (some (ad bw)) nilS sw gv false), wheelO bw] := by
  refine tr_intro Tryz.func25 rfl rfl rfl fun cx hro hk hret => ?_
  refine sx_seq ?_
  refine sx_region ?_
  refine sxo_pure rfl rfl rfl trivial ?_
  refine sxo_end ?_
  refine sx_seq ?_
  refine sx_drawN 1 (by kernel_rfl) [0, 1, 2, 3, 4, 5, 6, 7, 8, 9, 10] [(0, 3)] (by kernel_rfl) ?_
  refine sxo_loadF rfl rfl rfl (by exact .tail .head) rfl rfl rfl ?_
  refine sxo_pure rfl rfl rfl trivial ?_
  refine sxo_load rfl rfl rfl (by exact .head) rfl rfl rfl rfl ?_
  refine sxo_call0 rfl rfl rfl rfl (by exact .nil) (fun Kc hK hB => chokeNew_ok Kc) rfl rfl ?_ (hH := by rintro v m ⟨bw, rfl, rfl⟩; (refine hh_chk ⟨_, _, _, (by exact .tail (.tail .head)), (by rfl)⟩ ?_; exact hh_nil))
  rintro v m ⟨bw, rfl, rfl⟩
  simp only [List.cons_append, List.nil_append, List.append_nil, resV]
  refine sxo_fold (f := wheelF bw) (0, 0, none) (I := fun _ => True) trivial (by (apply Take.cons; focus exact .head); exact .nil) ?_
  refine sxo_pure rfl rfl rfl trivial ?_
  refine sxo_pure rfl rfl rfl trivial ?_
  refine sxo_pure rfl rfl rfl trivial ?_
  refine sxo_pure rfl rfl rfl trivial ?_
  refine sxo_pure rfl rfl rfl trivial ?_
  refine sxo_store rfl rfl rfl rfl (by exact .tail (.tail (.tail .head))) rfl rfl rfl rfl rfl ?_
  refine sxo_pure rfl rfl rfl trivial ?_
  refine sxo_end ?_
  refine sx_retL hret hro hk (.tmp rfl .nil) ⟨bw, rfl, rfl⟩ (by (apply Take.cons; focus exact .tail (.tail .head)); (apply Take.cons; focus exact .tail (.tail .head)); (apply Take.cons; focus exact .head); (apply Take.cons; focus exact .head); exact .nil)
theorem nOpen6_ok (ps pt pv pb pw : Option Addr) : TR Tryz.prog K 27 [evPtr b8] [.blk b8 29 [.c (.pointer (some (ad bn)))], .blk bn 73 (nodeCh ps pt pv pb pw nilS sw gv false)]
    fun v r => v = .s (.o (.int .i64 0)) ∧ r = [.blk b8 29 [.c (.pointer (some (ad bn)))], .blk bn 73 (nodeCh ps pt pv pb pw nilS sw gv false)] := by
  refine tr_intro Tryz.func27 rfl rfl rfl fun cx hro hk hret => ?_
  refine sx_seq ?_
  refine sx_region ?_
  refine sxo_pure rfl rfl rfl trivial ?_
  refine sxo_end ?_
  refine sx_seq ?_
  refine sx_region ?_
  refine sxo_load rfl rfl rfl (by exact .head) rfl rfl rfl rfl ?_
  refine sxo_call0 rfl rfl rfl rfl (by (apply Take.cons; focus exact .tail .head); exact .nil) (fun Kc hK hB => nodeSwarm_ok Kc bn ps pt pv pb pw nilS sw gv false) rfl rfl ?_ (hH := by rintro v m ⟨⟨p, rfl⟩, rfl⟩; (exact hh_nil))
  rintro v m ⟨⟨p, rfl⟩, rfl⟩
  simp only [List.cons_append, List.nil_append, List.append_nil, resV]
  refine sxo_pure rfl rfl rfl trivial ?_
  refine sxo_pure rfl rfl rfl trivial ?_
  refine sxo_pure rfl rfl rfl trivial ?_
  refine sxo_pure rfl rfl rfl trivial ?_
  refine sxo_end ?_
  refine sx_retL hret hro hk (.tmp rfl .nil) ⟨rfl, rfl⟩ (by (apply Take.cons; focus exact .tail .head); (apply Take.cons; focus exact .head); exact .nil)
end
end Go.SX

namespace Go.SX
open Go.Proofs
attribute [local irreducible] SX SXo
set_option maxRecDepth 20000
set_option maxHeartbeats 4000000
theorem nodeOpen_ok (K : Hp) (bd : Nat) (room : Int) (bm : Nat) (st : Sl) (sts : List Nat) (hroom : 201000 ≤ room) (hs : sts.length ≤ 100) : TR Tryz.prog K 7 [.o (.int .i64 7), evPtr bd, .g setCh] [.blk bd 62 (diskCh room bm st ⟨none, 0, 0⟩), .map bm ekStr evPO [], .vec st 58 1 encMp sts]
    fun v r => ∃ bn bs bt bv bb bw sw gv, v = .t [evPtr bn, .o (.int .i64 0)] ∧ r = [.blk bn 73 (nodeCh (some (ad bs)) (some (ad bt)) (some (ad bv)) (some (ad bb)) (some (ad bw)) nilS sw gv false), diskO bs, tabO bt, viewO bv [], bookO bb, wheelO bw, .map sw ekDig evPO [], .map gv ekInt evGiver []] := by
  refine tr_intro Tryz.func7 rfl rfl rfl fun cx hro hk hret => ?_
  refine sx_seq ?_
  refine sx_region ?_
  refine sxo_box rfl rfl rfl rfl rfl rfl (fun _ => ?_)
  refine sxo_box rfl rfl rfl rfl rfl rfl (fun _ => ?_)
  refine sxo_box rfl rfl rfl rfl rfl rfl (fun _ => ?_)
  refine sxo_pure rfl rfl rfl trivial ?_
  refine sxo_pure rfl rfl rfl trivial ?_
  refine sxo_end ?_
  refine sx_seq ?_
  refine sx_seq ?_
  refine sx_region ?_
  refine sxo_load rfl rfl rfl (by exact .tail (.tail .head)) rfl rfl rfl rfl ?_
  refine sxo_call0 rfl rfl rfl rfl (by exact .nil) (fun Kc hK hB => nodeWithin_t Kc 7 1 65536 (by decide)) rfl rfl ?_ (hH := by rintro v m ⟨rfl, rfl⟩; (exact hh_nil))
  rintro v m ⟨rfl, rfl⟩
  simp only [List.cons_append, List.nil_append, List.append_nil, resV]
  refine sxo_pure rfl rfl rfl trivial ?_
  refine sxo_pure rfl rfl rfl trivial ?_
  refine sxo_load rfl rfl rfl (by exact .tail .head) rfl rfl rfl rfl ?_
  refine sxo_eqPtr rfl rfl rfl rfl rfl rfl rfl rfl ?_
  refine sxo_pure rfl rfl rfl trivial ?_
  refine sxo_end ?_
  refine sx_condF rfl ?_
  refine sx_skip ?_
  refine sx_seq ?_
  refine sx_region ?_
  refine sxo_load rfl rfl rfl (by exact .tail (.tail .head)) rfl rfl rfl rfl ?_
  refine sxo_load rfl rfl rfl (by exact .head) rfl rfl rfl rfl ?_
  refine sxo_makeMap ekDig evPO rfl rfl rfl rfl (fun sw => ?_)
  skip
  refine sxo_makeMap ekInt evGiver rfl rfl rfl rfl (fun gv => ?_)
  refine sxo_build rfl rfl rfl rfl rfl rfl rfl rfl rfl ?_
  refine sxo_box rfl rfl rfl rfl rfl rfl (fun _ => ?_)
  refine sxo_alloc rfl rfl rfl rfl rfl rfl (fun _ => ?_)
  refine sxo_store rfl rfl rfl rfl (by exact .head) rfl rfl rfl rfl rfl ?_
  refine sxo_end ?_
  refine sx_seq ?_
  refine sx_region ?_
  refine sxo_pure rfl rfl rfl trivial ?_
  refine sxo_pure rfl rfl rfl trivial ?_
  refine sxo_pure rfl rfl rfl trivial ?_
  refine sxo_pure rfl rfl rfl trivial ?_
  refine sxo_pure rfl rfl rfl trivial ?_
  refine sxo_pure rfl rfl rfl trivial ?_
  rename_i b3 b4 b5 bn b8
  refine sxo_buildA rfl rfl rfl rfl rfl rfl rfl rfl rfl ?_
  refine sxo_alloc rfl rfl rfl rfl rfl rfl (fun _ => ?_)
  refine sxo_store rfl rfl rfl rfl (by exact .head) rfl rfl rfl rfl rfl ?_
  refine sxo_end ?_
  refine sx_seq ?_
  refine sx_seq ?_
  refine sx_region ?_
  refine sxo_load rfl rfl rfl (by exact .head) rfl rfl rfl rfl ?_
  refine sxo_pure rfl rfl rfl trivial ?_
  refine sxo_end ?_
  refine sx_block ?_
  refine sx_loop1 ?_
  refine sx_seq ?_
  refine sx_region ?_
  refine sxo_pure rfl rfl rfl trivial ?_
  refine sxo_end ?_
  refine sx_seq ?_
  refine sx_condT rfl ?_
  refine sx_skip ?_
  refine sx_seq ?_
  refine sx_block ?_
  refine sx_seq ?_
  refine sx_region ?_
  refine sxo_indexC rfl rfl rfl rfl rfl rfl rfl rfl rfl ⟨by decide, by decide⟩ rfl rfl ?_
  refine sxo_pure rfl rfl rfl trivial ?_
  refine sxo_end ?_
  refine sx_seq ?_
  refine sx_region ?_
  refine sxo_pure rfl rfl rfl trivial ?_
  refine sxo_call [evPtr b4, evPtr b5, evPtr b8] rfl rfl rfl rfl (by simp [SV1.val]) (by (apply Take.cons; focus exact .tail (.tail (.tail (.tail (.tail (.tail .head)))))); (apply Take.cons; focus exact .tail (.tail (.tail (.tail (.tail .head))))); (apply Take.cons; focus exact .tail .head); (apply Take.cons; focus exact .tail .head); (apply Take.cons; focus exact .tail (.tail (.tail (.tail .head)))); (apply Take.cons; focus exact .tail (.tail (.tail (.tail .head)))); exact .nil) rfl rfl (fun Kc hK hB => nOpen1_ok Kc b4 b5 b8 bn bd sw gv room bm st _) ?_ (hH := by rintro v m ⟨bs, bg, rfl, rfl⟩; (exact hh_nil))
  rintro v m ⟨bs, bg, rfl, rfl⟩
  simp only [List.cons_append, List.nil_append, List.append_nil, resV]
  refine sxo_pure rfl rfl rfl trivial ?_
  refine sxo_end ?_
  refine sx_seq ?_
  refine sx_region ?_
  refine sxo_pure rfl rfl rfl trivial ?_
  refine sxo_pure rfl rfl rfl trivial ?_
  refine sxo_end ?_
  refine sx_condF rfl ?_
  refine sx_skip ?_
  refine sx_inBlock ?_
  refine sx_region ?_
  refine sxo_pure rfl rfl rfl (by omega) ?_
  refine sxo_pure rfl rfl rfl trivial ?_
  refine sxo_end ?_
  refine sx_again1 ?_
  refine sx_seq ?_
  refine sx_region ?_
  refine sxo_pure rfl rfl rfl trivial ?_
  refine sxo_end ?_
  refine sx_seq ?_
  refine sx_condT rfl ?_
  refine sx_skip ?_
  refine sx_seq ?_
  refine sx_block ?_
  refine sx_seq ?_
  refine sx_region ?_
  refine sxo_indexC rfl rfl rfl rfl rfl rfl rfl rfl rfl ⟨by decide, by decide⟩ rfl rfl ?_
  refine sxo_pure rfl rfl rfl trivial ?_
  refine sxo_end ?_
  refine sx_seq ?_
  refine sx_region ?_
  refine sxo_pure rfl rfl rfl trivial ?_
  refine sxo_call [evPtr b4, evPtr b8] rfl rfl rfl rfl (by simp [SV1.val]) (by (apply Take.cons; focus exact .head); (apply Take.cons; focus exact .tail .head); (apply Take.cons; focus exact .tail .head); (apply Take.cons; focus exact .tail .head); (apply Take.cons; focus exact .tail .head); (apply Take.cons; focus exact .tail .head); (apply Take.cons; focus exact .tail (.tail (.tail (.tail (.tail .head))))); exact .nil) rfl rfl (fun Kc hK hB => nOpen2_ok Kc b4 b8 bn bd sw gv bs bg room bm st sts hroom hs) ?_ (hH := by rintro v m ⟨bt, rfl, rfl⟩; (exact hh_nil))
  rintro v m ⟨bt, rfl, rfl⟩
  simp only [List.cons_append, List.nil_append, List.append_nil, resV]
  refine sxo_pure rfl rfl rfl trivial ?_
  refine sxo_end ?_
  refine sx_seq ?_
  refine sx_region ?_
  refine sxo_pure rfl rfl rfl trivial ?_
  refine sxo_pure rfl rfl rfl trivial ?_
  refine sxo_end ?_
  refine sx_condF rfl ?_
  refine sx_skip ?_
  refine sx_inBlock ?_
  refine sx_region ?_
  refine sxo_pure rfl rfl rfl (by omega) ?_
  refine sxo_pure rfl rfl rfl trivial ?_
  refine sxo_end ?_
  refine sx_again1 ?_
  refine sx_seq ?_
  refine sx_region ?_
  refine sxo_pure rfl rfl rfl trivial ?_
  refine sxo_end ?_
  refine sx_seq ?_
  refine sx_condT rfl ?_
  refine sx_skip ?_
  refine sx_seq ?_
  refine sx_block ?_
  refine sx_seq ?_
  refine sx_region ?_
  refine sxo_indexC rfl rfl rfl rfl rfl rfl rfl rfl rfl ⟨by decide, by decide⟩ rfl rfl ?_
  refine sxo_pure rfl rfl rfl trivial ?_
  refine sxo_end ?_
  refine sx_seq ?_
  refine sx_region ?_
  refine sxo_pure rfl rfl rfl trivial ?_
  refine sxo_call [evPtr b3, evPtr b5, evPtr b8] rfl rfl rfl rfl (by simp [SV1.val]) (by (apply Take.cons; focus exact .tail (.tail (.tail (.tail (.tail (.tail (.tail (.tail (.tail .head))))))))); (apply Take.cons; focus exact .tail (.tail (.tail (.tail (.tail .head))))); (apply Take.cons; focus exact .tail .head); (apply Take.cons; focus exact .tail .head); exact .nil) rfl rfl (fun Kc hK hB => nOpen3_ok Kc b3 b5 b8 bn sw gv _ _) ?_ (hH := by rintro v m ⟨bv, rfl, rfl⟩; (exact hh_nil))
  rintro v m ⟨bv, rfl, rfl⟩
  simp only [List.cons_append, List.nil_append, List.append_nil, resV]
  refine sxo_pure rfl rfl rfl trivial ?_
  refine sxo_end ?_
  refine sx_seq ?_
  refine sx_region ?_
  refine sxo_pure rfl rfl rfl trivial ?_
  refine sxo_pure rfl rfl rfl trivial ?_
  refine sxo_end ?_
  refine sx_condF rfl ?_
  refine sx_skip ?_
  refine sx_inBlock ?_
  refine sx_region ?_
  refine sxo_pure rfl rfl rfl (by omega) ?_
  refine sxo_pure rfl rfl rfl trivial ?_
  refine sxo_end ?_
  refine sx_again1 ?_
  refine sx_seq ?_
  refine sx_region ?_
  refine sxo_pure rfl rfl rfl trivial ?_
  refine sxo_end ?_
  refine sx_seq ?_
  refine sx_condT rfl ?_
  refine sx_skip ?_
  refine sx_seq ?_
  refine sx_block ?_
  refine sx_seq ?_
  refine sx_region ?_
  refine sxo_indexC rfl rfl rfl rfl rfl rfl rfl rfl rfl ⟨by decide, by decide⟩ rfl rfl ?_
  refine sxo_pure rfl rfl rfl trivial ?_
  refine sxo_end ?_
  refine sx_seq ?_
  refine sx_region ?_
  refine sxo_pure rfl rfl rfl trivial ?_
  refine sxo_call [evPtr b5, evPtr b8] rfl rfl rfl rfl (by simp [SV1.val]) (by (apply Take.cons; focus exact .tail .head); (apply Take.cons; focus exact .tail .head); (apply Take.cons; focus exact .tail .head); exact .nil) rfl rfl (fun Kc hK hB => nOpen4_ok Kc b5 b8 bn sw gv _ _ _) ?_ (hH := by rintro v m ⟨bb, rfl, rfl⟩; (exact hh_nil))
  rintro v m ⟨bb, rfl, rfl⟩
  simp only [List.cons_append, List.nil_append, List.append_nil, resV]
  refine sxo_pure rfl rfl rfl trivial ?_
  refine sxo_end ?_
  refine sx_seq ?_
  refine sx_region ?_
  refine sxo_pure rfl rfl rfl trivial ?_
  refine sxo_pure rfl rfl rfl trivial ?_
  refine sxo_end ?_
  refine sx_condF rfl ?_
  refine sx_skip ?_
  refine sx_inBlock ?_
  refine sx_region ?_
  refine sxo_pure rfl rfl rfl (by omega) ?_
  refine sxo_pure rfl rfl rfl trivial ?_
  refine sxo_end ?_
  refine sx_again1 ?_
  refine sx_seq ?_
  refine sx_region ?_
  refine sxo_pure rfl rfl rfl trivial ?_
  refine sxo_end ?_
  refine sx_seq ?_
  refine sx_condT rfl ?_
  refine sx_skip ?_
  refine sx_seq ?_
  refine sx_block ?_
  refine sx_seq ?_
  refine sx_region ?_
  refine sxo_indexC rfl rfl rfl rfl rfl rfl rfl rfl rfl ⟨by decide, by decide⟩ rfl rfl ?_
  refine sxo_pure rfl rfl rfl trivial ?_
  refine sxo_end ?_
  refine sx_seq ?_
  refine sx_region ?_
  refine sxo_pure rfl rfl rfl trivial ?_
  refine sxo_call [evPtr b5, evPtr b8] rfl rfl rfl rfl (by simp [SV1.val]) (by (apply Take.cons; focus exact .head); (apply Take.cons; focus exact .head); (apply Take.cons; focus exact .head); exact .nil) rfl rfl (fun Kc hK hB => nOpen5_ok Kc b5 b8 bn sw gv _ _ _ _) ?_ (hH := by rintro v m ⟨bw, rfl, rfl⟩; (exact hh_nil))
  rintro v m ⟨bw, rfl, rfl⟩
  simp only [List.cons_append, List.nil_append, List.append_nil, resV]
  refine sxo_pure rfl rfl rfl trivial ?_
  refine sxo_end ?_
  refine sx_seq ?_
  refine sx_region ?_
  refine sxo_pure rfl rfl rfl trivial ?_
  refine sxo_pure rfl rfl rfl trivial ?_
  refine sxo_end ?_
  refine sx_condF rfl ?_
  refine sx_skip ?_
  refine sx_inBlock ?_
  refine sx_region ?_
  refine sxo_pure rfl rfl rfl (by omega) ?_
  refine sxo_pure rfl rfl rfl trivial ?_
  refine sxo_end ?_
  refine sx_again1 ?_
  refine sx_seq ?_
  refine sx_region ?_
  refine sxo_pure rfl rfl rfl trivial ?_
  refine sxo_end ?_
  refine sx_seq ?_
  refine sx_condT rfl ?_
  refine sx_skip ?_
  refine sx_seq ?_
  refine sx_block ?_
  refine sx_seq ?_
  refine sx_region ?_
  refine sxo_indexC rfl rfl rfl rfl rfl rfl rfl rfl rfl ⟨by decide, by decide⟩ rfl rfl ?_
  refine sxo_pure rfl rfl rfl trivial ?_
  refine sxo_end ?_
  refine sx_seq ?_
  refine sx_region ?_
  refine sxo_pure rfl rfl rfl trivial ?_
  refine sxo_call [evPtr b8] rfl rfl rfl rfl (by simp [SV1.val]) (by (apply Take.cons; focus exact .tail .head); (apply Take.cons; focus exact .tail .head); exact .nil) rfl rfl (fun Kc hK hB => nOpen6_ok Kc b8 bn sw gv _ _ _ _ _) ?_ (hH := by rintro v m ⟨rfl, rfl⟩; (exact hh_nil))
  rintro v m ⟨rfl, rfl⟩
  simp only [List.cons_append, List.nil_append, List.append_nil, resV]
  refine sxo_pure rfl rfl rfl trivial ?_
  refine sxo_end ?_
  refine sx_seq ?_
  refine sx_region ?_
  refine sxo_pure rfl rfl rfl trivial ?_
  refine sxo_pure rfl rfl rfl trivial ?_
  refine sxo_end ?_
  refine sx_condF rfl ?_
  refine sx_skip ?_
  refine sx_inBlock ?_
  refine sx_region ?_
  refine sxo_pure rfl rfl rfl (by omega) ?_
  refine sxo_pure rfl rfl rfl trivial ?_
  refine sxo_end ?_
  refine sx_again1 ?_
  refine sx_seq ?_
  refine sx_region ?_
  refine sxo_pure rfl rfl rfl trivial ?_
  refine sxo_end ?_
  refine sx_seq ?_
  refine sx_condF rfl ?_
  refine sx_exit rfl ?_
  refine sx_seq ?_
  refine sx_region ?_
  refine sxo_load rfl rfl rfl (by exact .head) rfl rfl rfl rfl ?_
  refine sxo_pure rfl rfl rfl trivial ?_
  refine sxo_pure rfl rfl rfl trivial ?_
  refine sxo_end ?_
  refine sx_retL hret hro hk (.tmp rfl (.tmp rfl .nil)) ⟨bn, bs, bt, bv, bb, bw, sw, gv, rfl, rfl⟩ (by (apply Take.cons; focus exact .tail .head); (apply Take.cons; focus exact .tail (.tail (.tail (.tail (.tail (.tail (.tail (.tail .head)))))))); (apply Take.cons; focus exact .tail (.tail (.tail (.tail (.tail (.tail (.tail .head))))))); (apply Take.cons; focus exact .tail (.tail (.tail (.tail (.tail .head))))); (apply Take.cons; focus exact .tail (.tail (.tail .head))); (apply Take.cons; focus exact .tail (.tail .head)); (apply Take.cons; focus exact .tail (.tail (.tail (.tail (.tail (.tail .head)))))); (apply Take.cons; focus exact .tail (.tail (.tail (.tail (.tail .head))))); exact .nil)
end Go.SX

namespace Go.SX
section
variable {P : Program} [Tab P] {N : Nat} {cx : Cx P N} {K : Hp} {ds : List Deferred} {k : List Item} {env : Env} {mem r : List Ent} {rg : Rg} {H : List HE} {R : List (Nat × Oper)} {i : Nat} {o : Oper}
variable {T kT eT : TypeId} {ti : TInf} {κ ν : Type} [DecidableEq κ] {ek : κ → SV1} {ev' : ν → SV1} {m : List (κ × ν)} {b : Nat}
/-- clear, of a map of one's own. -/
theorem sxo_clearMap {x : Operand} (ho : o.op = .call { callee := .builtin .clear, args := #[x], argTypes := #[T] }) (hg : guardE rg.ops o env = some true) (hx : ev env x = some (.s (.o (.map (some b)))))
    (hb : Pick mem (.map b ek ev' m) r) (ht : Tab.ti P T = some ti) (hd : ti.d = .map kT eT) (hdst : dstOk N o.dst = true) (hl : rg.lt P i = false)
    (h : SXo cx K ds rg H R k (setE env o.dst (.s (.o undef))) (.map b ek ev' [] :: r)) (hH : ∀ x ∈ H, rg.fr P x.idx i = true → x.chk (.map b ek ev' [] :: r) := by repeat (first | exact hh_nil | refine hh_free rfl ?_)) : SXo cx K ds rg H ((i, o) :: R) k env mem :=
  sxo_act hl hg (by rw [ho]; rfl) fun a w s => by
    have hm := MSat.pick hb s.mem
    obtain ⟨es, clock, hbb, hes, hnd, hlt⟩ := MSat.map hm
    have hrun : (underlying T).run P w = .ok (.map kT eT) w := run_underlying (tab_map ht hd) w
    have hgo : (getObj b).run P w = .ok (.map es clock) w := by simp only [vw] at hbb; simp [getObj, Sem.run, hbb]
    have hs : (setObj b (.map #[] clock)).run P w = .ok () { w with heap := w.heap.setIfInBounds b (.map #[] clock) } := by simp only [vw] at hbb; simp [setObj, Sem.run, hbb]
    have hrun : (execOp a.eval o).run P w = .ok (.value undef) { w with heap := w.heap.setIfInBounds b (.map #[] clock) } := by
      simp [execOp, ho, resolve, invoke, builtin, s.env.eval hx, Builtin.clear_, hrun, hgo, hs, undef]
    unfold OW
    rw [hrun]
    refine ⟨_, _, _, ⟨by rw [Act.put_def]; exact s.ds, by rw [Act.put_size]; exact s.size, s.env.put s.size hdst (.s (.o undef)), ?_, s.os, s.out⟩, hH, h⟩
    rw [vw_set w b _ (vw_lt hbb)]
    exact hm.turnMap (fun h => ⟨#[], clock, put_self _ _ _, by simp, by simp, by simp⟩)
end
end Go.SX

namespace Go.SX
open Go.Proofs
attribute [local irreducible] SX SXo
set_option maxRecDepth 20000
set_option maxHeartbeats 4000000
section
variable (K : Hp) (bn bs bt bv bb bw : Nat) (pl : Sl) (sw gv : Nat)
@[reducible] def nodeC (bs bt bv bb bw : Nat) (pl : Sl) (sw gv : Nat) : List Ch := nodeCh (some (ad bs)) (some (ad bt)) (some (ad bv)) (some (ad bb)) (some (ad bw)) pl sw gv false
theorem nfind_ok (D : Dig) : TR Tryz.prog K 45 [evPtr bn, .g [.d D]] [.blk bn 73 (nodeC bs bt bv bb bw nilS sw gv)]
    fun v r => v = .s (.o (.int .i64 (-1))) ∧ r = [.blk bn 73 (nodeC bs bt bv bb bw nilS sw gv)] := by
  refine tr_intro Tryz.func45 rfl rfl rfl fun cx hro hk hret => ?_
  refine sx_seq ?_
  refine sx_region ?_
  refine sxo_box rfl rfl rfl rfl rfl rfl (fun _ => ?_)
  refine sxo_pure rfl rfl rfl trivial ?_
  refine sxo_end ?_
  refine sx_seq ?_
  refine sx_region ?_
  refine sxo_pure rfl rfl rfl trivial ?_
  refine sxo_pure rfl rfl rfl trivial ?_
  refine sxo_pure rfl rfl rfl trivial ?_
  refine sxo_load rfl rfl rfl (by exact .tail .head) rfl rfl rfl rfl ?_
  refine sxo_pure rfl rfl rfl trivial ?_
  refine sxo_call0 rfl rfl rfl rfl .nil (fun Kc hK hB => IdxPull_ok Kc [] none 0 0 [] _ (fun _ => true) Reads.nil_ (by decide) ⟨fun _ _ x hx => nomatch hx⟩) rfl rfl ?_
  rintro v m ⟨⟨j, rfl, hj⟩, rfl⟩
  have hj' : j = -1 := by
    rcases hj with ⟨h, _⟩ | ⟨h1, h2, _⟩
    · exact h
    · simp at h2; omega
  subst hj'
  refine sxo_pure rfl rfl rfl trivial ?_
  refine sxo_end ?_
  refine sx_retL hret hro hk (.tmp rfl .nil) ⟨rfl, rfl⟩ (by (apply Take.cons; focus exact .tail .head); exact .nil)
theorem there_ok (D : Dig) : TR Tryz.prog K 46 [evPtr bn, .g [.d D]] [.blk bn 73 (nodeC bs bt bv bb bw pl sw gv), diskO bs]
    fun v r => v = .s (.o (.bool false)) ∧ r = [.blk bn 73 (nodeC bs bt bv bb bw pl sw gv), diskO bs] := by
  refine tr_intro Tryz.func46 rfl rfl rfl fun cx hro hk hret => ?_
  refine sx_seq ?_
  refine sx_region ?_
  refine sxo_box rfl rfl rfl rfl rfl rfl (fun _ => ?_)
  refine sxo_pure rfl rfl rfl trivial ?_
  refine sxo_end ?_
  refine sx_seq ?_
  refine sx_drawT 1 (by kernel_rfl) (by kernel_rfl) (good_split 5 9 rfl (good_plan [0, 1, 2, 3, 4, 5, 6, 7, 8, 9, 10, 11] [] (by kernel_rfl) ?_) (good_plan [0, 1, 2, 3, 4, 9, 5, 6, 7, 8, 10, 11] [(3, 9), (4, 9)] (by kernel_rfl) ?_))
  · refine sxo_pure rfl rfl rfl trivial ?_
    refine sxo_pure rfl rfl rfl trivial ?_
    refine sxo_pure rfl rfl rfl trivial ?_
    refine sxo_load rfl rfl rfl (by exact .tail .head) rfl rfl rfl rfl ?_
    refine sxo_load rfl rfl rfl (by exact .head) rfl rfl rfl rfl ?_
    refine sxo_call0 rfl rfl rfl rfl (by (apply Take.cons; focus exact .tail (.tail .head)); exact .nil) (fun Kc hK hB => ImageO Kc bs D) rfl rfl ?_ (hH := by rintro v m ⟨rfl, rfl⟩; (exact hh_nil))
    rintro v m ⟨rfl, rfl⟩
    simp only [List.cons_append, List.nil_append, List.append_nil, resV]
    refine sxo_pure rfl rfl rfl trivial ?_
    refine sxo_pure rfl rfl rfl trivial ?_
    refine sxo_pure rfl rfl rfl trivial ?_
    refine sxo_alloc rfl rfl rfl rfl rfl rfl (fun _ => ?_)
    refine sxo_store rfl rfl rfl rfl (by exact .head) rfl rfl rfl rfl rfl ?_
    refine sxo_pure rfl rfl rfl trivial ?_
    refine sxo_end ?_
    refine sx_seq ?_
    refine sx_region ?_
    refine sxo_pure rfl rfl rfl trivial ?_
    refine sxo_pure rfl rfl rfl trivial ?_
    refine sxo_end ?_
    refine sx_retL hret hro hk (.tmp rfl .nil) ⟨rfl, rfl⟩ (by (apply Take.cons; focus exact .tail (.tail (.tail .head))); (apply Take.cons; focus exact .tail .head); exact .nil)
  · refine sxo_pure rfl rfl rfl trivial ?_
    refine sxo_pure rfl rfl rfl trivial ?_
    refine sxo_pure rfl rfl rfl trivial ?_
    refine sxo_loadF rfl rfl rfl (by exact .tail .head) rfl rfl rfl ?_
    refine sxo_loadF rfl rfl rfl (by exact .head) rfl rfl rfl ?_
    refine sxo_alloc rfl rfl rfl rfl rfl rfl (fun _ => ?_)
    refine sxo_call0 rfl rfl rfl rfl (by (apply Take.cons; focus exact .tail (.tail (.tail .head))); exact .nil) (fun Kc hK hB => ImageO Kc bs D) rfl rfl ?_ (hH := by rintro v m ⟨rfl, rfl⟩; (refine hh_free rfl ?_; refine hh_free rfl ?_; exact hh_nil))
    rintro v m ⟨rfl, rfl⟩
    simp only [List.cons_append, List.nil_append, List.append_nil, resV]
    refine sxo_pure rfl rfl rfl trivial ?_
    refine sxo_pure rfl rfl rfl trivial ?_
    refine sxo_pure rfl rfl rfl trivial ?_
    refine sxo_store rfl rfl rfl rfl (by exact .tail .head) rfl rfl rfl rfl rfl ?_
    refine sxo_pure rfl rfl rfl trivial ?_
    refine sxo_end ?_
    refine sx_seq ?_
    refine sx_region ?_
    refine sxo_pure rfl rfl rfl trivial ?_
    refine sxo_pure rfl rfl rfl trivial ?_
    refine sxo_end ?_
    refine sx_retL hret hro hk (.tmp rfl .nil) ⟨rfl, rfl⟩ (by (apply Take.cons; focus exact .tail (.tail (.tail .head))); (apply Take.cons; focus exact .tail .head); exact .nil)
theorem round_ok (g : List (Int × Giver)) (hg : g.length ≤ 5) (seed : Int) : TR Tryz.prog K 31 [evPtr bn, .o (.int .u64 seed)] [.blk bn 73 (nodeC bs bt bv bb bw pl sw gv), .map gv ekInt evGiver g, wheelO bw]
    fun _ r => r = [.blk bn 73 (nodeC bs bt bv bb bw pl sw gv), .map gv ekInt evGiver [], wheelO bw] := by
  refine tr_intro Tryz.func31 rfl rfl rfl fun cx hro hk hret => ?_
  refine sx_seq ?_
  refine sx_region ?_
  refine sxo_pure rfl rfl rfl trivial ?_
  refine sxo_end ?_
  refine sx_seq ?_
  refine sx_seq ?_
  refine sx_region ?_
  refine sxo_pure rfl rfl rfl trivial ?_
  refine sxo_pure rfl rfl rfl trivial ?_
  refine sxo_pure rfl rfl rfl trivial ?_
  refine sxo_load rfl rfl rfl (by exact .head) rfl rfl rfl rfl ?_
  refine sxo_call0 rfl rfl rfl rfl (by exact .nil) (fun Kc hK hB => KeysGiver_ok Kc gv) rfl rfl ?_ (hH := by rintro v m ⟨bx, rfl, rfl⟩; (exact hh_nil))
  rintro v m ⟨bx, rfl, rfl⟩
  simp only [List.cons_append, List.nil_append, List.append_nil, resV]
  skip
  refine sxo_call0 rfl rfl rfl rfl (by (apply Take.cons; focus exact .head); (apply Take.cons; focus exact .tail .head); exact .nil) (fun Kc hK hB => SortedInt_ok Kc _ [.o (.pointer (some ⟨bx, 0, none⟩))] _ _ _ (by omega) (fun l hl => by rw [hl.length_eq]; simp; omega) (KeysGiver_seq Kc bx gv g)) rfl rfl ?_ (hH := by rintro v m ⟨p, n, c, l, hl, rfl, rfl⟩; (exact hh_nil))
  rintro v m ⟨p, n, c, l, hl, rfl, rfl⟩
  simp only [List.cons_append, List.nil_append, List.append_nil, resV]
  have hll : (l.mergeSort le_).length ≤ 5 := by rw [List.length_mergeSort]; have := hl.length_eq; simp at this; omega
  generalize hq : l.mergeSort le_ = q at hll
  refine sxo_len rfl rfl rfl rfl rfl (by exact Reads.own (by exact .head)) rfl rfl ?_
  refine sxo_pure rfl rfl rfl trivial ?_
  refine sxo_end ?_
  refine sx_block ?_
  refine sx_nilVec encR 163 3 ?_
  refine sx_less (by refine .cons rfl ?_; refine .cons rfl ?_; refine .cons rfl ?_; refine .cons rfl ?_; refine .cons rfl ?_; refine .cons rfl ?_; exact .nil _) (by (apply Take.cons; focus exact .head); (apply Take.cons; focus exact .head); (apply Take.cons; focus exact .tail (.tail .head)); (apply Take.cons; focus exact .tail .head); (apply Take.cons; focus exact .tail .head); exact .nil) (sx_loopI (γ := Nat × Sl × List Rate) (fun x => x.1 ≤ q.length ∧ x.2.2.length ≤ x.1 ∧ ∀ y ∈ x.2.2, y.wants = true) (fun x => q.length - x.1) (fun x => [(0, .s (evPtr bn)), (1, .s (.o (.int .u64 seed))), (13, .s (.o (.slice p n c))), (14, .s (.o (.int .i64 q.length))), (15, .s (.o (.int .i64 x.1))), (4, .s (.o (.slice x.2.1.p x.2.1.n x.2.1.c)))]) (fun x => [.vec ⟨x.2.1.p, x.2.1.n, x.2.1.c⟩ 163 3 encR x.2.2, .vec ⟨p, n, c⟩ 3 1 encI q, .blk bn 73 (nodeC bs bt bv bb bw pl sw gv), .map gv ekInt evGiver g, wheelO bw]) ((0, ⟨none, 0, 0⟩, [])) (by simp) ?_)
  rintro ⟨j, ⟨p1, n1, c1⟩, o⟩ ⟨hj, ho, hw⟩ ih
  simp only at hj ho hw
  refine sx_seq ?_
  refine sx_region ?_
  refine sxo_pure rfl rfl rfl trivial ?_
  refine sxo_end ?_
  refine sx_seq ?_
  refine sx_cond rfl (fun h => ?_) (fun h => ?_)
  · simp at h
    refine sx_skip ?_
    refine sx_seq ?_
    refine sx_block ?_
    refine sx_seq ?_
    refine sx_region ?_
    refine sxo_indexAddr rfl rfl rfl rfl rfl rfl rfl (Reads.own (by exact .tail .head)) (by omega) rfl (fun _ _ => ?_)
    refine sxo_loadEl0 rfl rfl rfl (by exact .head) (Reads.own (by exact .tail (.tail .head))) rfl (by omega) (fun _ => rfl) rfl rfl (fun id hid => ?_)
    refine sxo_pure rfl rfl rfl trivial ?_
    refine sxo_end ?_
    refine sx_seq ?_
    refine sx_region ?_
    refine sxo_pure rfl rfl rfl trivial ?_
    refine sxo_pure rfl rfl rfl trivial ?_
    refine sxo_pure rfl rfl rfl trivial ?_
    refine sxo_load rfl rfl rfl (by exact .tail (.tail (.tail .head))) rfl rfl rfl rfl ?_
    refine sxo_pure rfl rfl rfl trivial ?_
    refine sxo_lookup ekInt _ HasZ.z rfl rfl rfl rfl (by exact .tail (.tail (.tail (.tail .head)))) rfl rfl (kt_int rfl rfl) rfl rfl rfl rfl rfl ?_
    refine sxo_alloc rfl rfl rfl rfl rfl rfl (fun _ => ?_)
    refine sxo_store rfl rfl rfl rfl (by exact .head) rfl rfl rfl rfl rfl ?_
    refine sxo_end ?_
    refine sx_seq ?_
    refine sx_region ?_
    refine sxo_pure rfl rfl rfl trivial ?_
    refine sxo_load rfl rfl rfl (by exact .head) rfl rfl rfl rfl ?_
    refine sxo_end ?_
    refine sx_cond rfl (fun h2 => ?_) (fun h2 => ?_)
    · refine sx_region ?_
      refine sxo_pure rfl rfl rfl trivial ?_
      refine sxo_pure rfl rfl rfl trivial ?_
      refine sxo_pure rfl rfl rfl trivial ?_
      refine sxo_load rfl rfl rfl (by exact .head) rfl rfl rfl rfl ?_
      refine sxo_min rfl rfl rfl rfl rfl ?_
      refine sxo_build rfl rfl rfl rfl rfl rfl rfl rfl rfl ?_
      refine sxo_buildSlice rfl rfl rfl rfl rfl rfl rfl rfl rfl rfl rfl rfl rfl (fun _ => ?_)
      refine sxo_append (lx := [(⟨id, min ((mget g id).getD HasZ.z).bytes 1099511627776, true⟩ : Rate)]) rfl rfl rfl rfl rfl rfl rfl rfl rfl rfl (by exact .tail (.tail (.tail .head))) (Reads.one (by exact .head) rfl rfl) (fun _ => rfl) rfl rfl rfl (by simp; omega) (fun p2 n2 c2 => ?_)
      refine sxo_pure rfl rfl rfl trivial ?_
      refine sxo_end ?_
      refine sx_inBlock ?_
      refine sx_region ?_
      refine sxo_pure rfl rfl rfl (by omega) ?_
      refine sxo_pure rfl rfl rfl trivial ?_
      refine sxo_end ?_
      refine sx_less (by refine .cons rfl ?_; refine .cons rfl ?_; refine .cons rfl ?_; refine .cons rfl ?_; refine .cons rfl ?_; refine .cons rfl ?_; exact .nil _) (by (apply Take.cons; focus exact .head); (apply Take.cons; focus exact .tail (.tail (.tail .head))); (apply Take.cons; focus exact .tail (.tail (.tail .head))); (apply Take.cons; focus exact .tail (.tail (.tail .head))); (apply Take.cons; focus exact .tail (.tail (.tail .head))); exact .nil) (ih ((j + 1, ⟨p2, n2, c2⟩, o ++ [⟨id, min ((mget g id).getD HasZ.z).bytes 1099511627776, true⟩])) (⟨by simp only; omega, by simp; omega, fun y hy => by rcases List.mem_append.1 hy with hy | hy; exact hw y hy; simp at hy; rw [hy]⟩) (by simp only; omega))
    · refine sx_skip ?_
      refine sx_inBlock ?_
      refine sx_region ?_
      refine sxo_pure rfl rfl rfl (by omega) ?_
      refine sxo_pure rfl rfl rfl trivial ?_
      refine sxo_end ?_
      refine sx_less (by refine .cons rfl ?_; refine .cons rfl ?_; refine .cons rfl ?_; refine .cons rfl ?_; refine .cons rfl ?_; refine .cons rfl ?_; exact .nil _) (by (apply Take.cons; focus exact .tail (.tail .head)); (apply Take.cons; focus exact .tail (.tail .head)); (apply Take.cons; focus exact .tail (.tail .head)); (apply Take.cons; focus exact .tail (.tail .head)); (apply Take.cons; focus exact .tail (.tail .head)); exact .nil) (ih ((j + 1, ⟨p1, n1, c1⟩, o)) (⟨by simp only; omega, by simp only; omega, hw⟩) (by simp only; omega))
  · simp at h
    refine sx_exit rfl ?_
    refine sx_seq ?_
    refine sx_region ?_
    refine sxo_pure rfl rfl rfl trivial ?_
    refine sxo_pure rfl rfl rfl trivial ?_
    refine sxo_pure rfl rfl rfl trivial ?_
    refine sxo_load rfl rfl rfl (by exact .tail (.tail .head)) rfl rfl rfl rfl ?_
    refine sxo_pure rfl rfl rfl trivial ?_
    refine sxo_pure rfl rfl rfl trivial ?_
    refine sxo_call0 rfl rfl rfl rfl (by (apply Take.cons; focus exact .tail (.tail (.tail (.tail .head)))); (apply Take.cons; focus exact .head); exact .nil) (fun Kc hK hB => Round_ok Kc bw p1 n1 c1 o seed (by omega) hw) rfl rfl ?_ (hH := by rintro v m rfl; (exact hh_nil))
    rintro v m rfl
    simp only [List.cons_append, List.nil_append, List.append_nil, resV]
    refine sxo_end ?_
    refine sx_region ?_
    refine sxo_pure rfl rfl rfl trivial ?_
    refine sxo_pure rfl rfl rfl trivial ?_
    refine sxo_pure rfl rfl rfl trivial ?_
    refine sxo_load rfl rfl rfl (by exact .tail (.tail .head)) rfl rfl rfl rfl ?_
    refine sxo_clearMap rfl rfl rfl (by exact .tail (.tail (.tail .head))) rfl rfl rfl rfl ?_
    refine sxo_end ?_
    refine sx_endL hret hro hk .nil rfl (by (apply Take.cons; focus exact .tail (.tail (.tail .head))); (apply Take.cons; focus exact .head); (apply Take.cons; focus exact .head); exact .nil)
end
end Go.SX

namespace Go.SX
open Go.Proofs
attribute [local irreducible] SX SXo
set_option maxRecDepth 20000
set_option maxHeartbeats 4000000
theorem nodeWithin_ok (K : Hp) (n lo hi : Int) : TR Tryz.prog K 16 [.o (.int .i64 n), .o (.int .i64 lo), .o (.int .i64 hi)] []
    fun v r => v = .s (.o (.bool (inR n lo hi))) ∧ r = [] := by
  refine tr_intro Tryz.func16 rfl rfl rfl fun cx hro hk hret => ?_
  refine sx_seq ?_
  refine sx_region ?_
  refine sxo_pure rfl rfl rfl trivial ?_
  refine sxo_end ?_
  refine sx_seq ?_
  refine sx_region ?_
  refine sxo_pure rfl rfl rfl trivial ?_
  refine sxo_pure rfl rfl rfl trivial ?_
  refine sxo_pure rfl rfl rfl trivial ?_
  refine sxo_pure rfl rfl rfl trivial ?_
  refine sxo_split (t := 10) rfl (fun h1 => ?_) (fun h1 => ?_)
  · refine sxo_pure rfl rfl rfl trivial ?_
    refine sxo_pure rfl rfl rfl trivial ?_
    refine sxo_pure rfl rfl rfl trivial ?_
    refine sxo_pure rfl rfl rfl trivial ?_
    refine sxo_pure rfl rfl rfl trivial ?_
    refine sxo_end ?_
    refine sx_retL hret hro hk (.tmp rfl .nil) ⟨by simp at h1; simp [inR, h1, resV], rfl⟩ (by exact .nil)
  · refine sxo_pass rfl rfl rfl ?_
    refine sxo_pass rfl rfl rfl ?_
    refine sxo_pass rfl rfl rfl ?_
    refine sxo_pure rfl rfl rfl trivial ?_
    refine sxo_pure rfl rfl rfl trivial ?_
    refine sxo_end ?_
    refine sx_retL hret hro hk (.tmp rfl .nil) ⟨by simp at h1; simp [inR, resV]; omega, rfl⟩ (by exact .nil)
@[reducible] def encOut (x : Int × Msg) : List Ch := .c (.int .i64 x.1) :: encMsg x.2
section
variable (K : Hp) (bn bs bt bv bb bw : Nat) (pl : Sl) (sw gv : Nat)
theorem TickQ_ok (m : List (Int × Member)) (hm : m.length ≤ 5) (hv : VOk m) (g : List (Int × Giver)) (hg : g.length ≤ 5) (now seed : Int) :
    TR Tryz.prog K 9 [evPtr bn, .o (.int .i64 now), .o (.int .u64 seed)] [.blk bn 73 (nodeC bs bt bv bb bw nilS sw gv), bookO bb, viewO bv m, wheelO bw, .map gv ekInt evGiver g]
    fun v r => ∃ m' g' p n c e, VOk m' ∧ m'.length ≤ 5 ∧ g'.length ≤ 5 ∧ (e = 0 → m'.length = 0 → n = 0) ∧ v = .t [.o (.slice p n c), .o (.int .i64 e)] ∧ r = [.blk bn 73 (nodeC bs bt bv bb bw nilS sw gv), bookO bb, viewO bv m', wheelO bw, .map gv ekInt evGiver g'] := by
  refine tr_intro Tryz.func9 rfl rfl rfl fun cx hro hk hret => ?_
  refine sx_seq ?_
  refine sx_region ?_
  refine sxo_pure rfl rfl rfl trivial ?_
  refine sxo_pure rfl rfl rfl trivial ?_
  refine sxo_end ?_
  refine sx_seq ?_
  refine sx_block ?_
  refine sx_seq ?_
  refine sx_region ?_
  refine sxo_pure rfl rfl rfl trivial ?_
  refine sxo_pure rfl rfl rfl trivial ?_
  refine sxo_pure rfl rfl rfl trivial ?_
  refine sxo_load rfl rfl rfl (by exact .head) rfl rfl rfl rfl ?_
  refine sxo_pure rfl rfl rfl trivial ?_
  refine sxo_end ?_
  refine sx_condF rfl ?_
  refine sx_seq ?_
  refine sx_region ?_
  refine sxo_pure rfl rfl rfl trivial ?_
  refine sxo_call0 rfl rfl rfl rfl (by exact .nil) (fun Kc hK hB => nodeWithin_ok Kc now 0 1099511627776) rfl rfl ?_ (hH := by rintro v m ⟨rfl, rfl⟩; (exact hh_nil))
  rintro v m ⟨rfl, rfl⟩
  simp only [List.cons_append, List.nil_append, List.append_nil, resV]
  refine sxo_pure rfl rfl rfl trivial ?_
  refine sxo_pure rfl rfl rfl trivial ?_
  refine sxo_end ?_
  refine sx_cond rfl (fun h1 => ?_) (fun h1 => ?_)
  · refine sx_seq ?_
    refine sx_region ?_
    refine sxo_pure rfl rfl rfl trivial ?_
    refine sxo_pure rfl rfl rfl trivial ?_
    refine sxo_end ?_
    refine sx_retL hret hro hk (.tmp rfl (.tmp rfl .nil)) ⟨m, g, none, 0, 0, 1, hv, hm, hg, by simp, rfl, rfl⟩ (by (apply Take.cons; focus exact .head); (apply Take.cons; focus exact .head); (apply Take.cons; focus exact .head); (apply Take.cons; focus exact .head); (apply Take.cons; focus exact .head); exact .nil)
  simp [inR] at h1
  refine sx_skip ?_
  refine sx_inBlock ?_
  refine sx_seq ?_
  refine sx_region ?_
  refine sxo_pure rfl rfl rfl trivial ?_
  refine sxo_pure rfl rfl rfl trivial ?_
  refine sxo_pure rfl rfl rfl trivial ?_
  refine sxo_load rfl rfl rfl (by exact .head) rfl rfl rfl rfl ?_
  refine sxo_pure rfl rfl rfl trivial ?_
  refine sxo_call0 rfl rfl rfl rfl (by (apply Take.cons; focus exact .tail .head); exact .nil) (fun Kc hK hB => ExpireO Kc bb now h1) rfl rfl ?_ (hH := by rintro v m rfl; (exact hh_nil))
  rintro v m rfl
  simp only [List.cons_append, List.nil_append, List.append_nil, resV]
  refine sxo_end ?_
  refine sx_seq ?_
  refine sx_drawN 6 (by kernel_rfl) [0, 1, 2, 3, 4, 5, 6, 7, 8, 9, 10, 11, 12] [] (by kernel_rfl) ?_
  refine sxo_pure rfl rfl rfl trivial ?_
  refine sxo_pure rfl rfl rfl trivial ?_
  refine sxo_pure rfl rfl rfl trivial ?_
  refine sxo_load rfl rfl rfl (by exact .tail .head) rfl rfl rfl rfl ?_
  refine sxo_pure rfl rfl rfl trivial ?_
  refine sxo_pure rfl rfl rfl trivial ?_
  refine sxo_pure rfl rfl rfl trivial ?_
  refine sxo_pure rfl rfl rfl trivial ?_
  refine sxo_pure rfl rfl rfl trivial ?_
  refine sxo_load rfl rfl rfl (by exact .tail .head) rfl rfl rfl rfl ?_
  refine sxo_pure rfl rfl rfl (by omega) ?_
  refine sxo_min rfl rfl rfl rfl rfl ?_
  refine sxo_call0 rfl rfl rfl rfl (by (apply Take.cons; focus exact .tail (.tail .head)); exact .nil) (fun Kc hK hB => TickO Kc bv m (by omega) hv now _ h1 (by decide)) rfl rfl ?_ (hH := by rintro v m ⟨m', hv', hm', rfl⟩; (exact hh_nil))
  rintro v m ⟨m', hv', hm', rfl⟩
  simp only [List.cons_append, List.nil_append, List.append_nil, resV]
  refine sxo_end ?_
  refine sx_seq ?_
  refine sx_seq ?_
  refine sx_region ?_
  refine sxo_pure rfl rfl rfl trivial ?_
  refine sxo_pure rfl rfl rfl (by omega) ?_
  refine sxo_pure rfl rfl rfl trivial ?_
  refine sxo_end ?_
  refine sx_join (γ := { g' : List (Int × Giver) // g'.length ≤ 5 }) (fun _ => [(0, .s (evPtr bn)), (1, .s (.o (.int .i64 now))), (2, .s (.o (.int .u64 seed)))]) (fun x => [.blk bn 73 (nodeC bs bt bv bb bw nilS sw gv), bookO bb, viewO bv m', wheelO bw, .map gv ekInt evGiver x.1]) (fun J => ?_) (fun x => ?_)
  · refine sx_cond rfl (fun h2 => ?_) (fun h2 => ?_)
    · refine sx_region ?_
      refine sxo_pure rfl rfl rfl trivial ?_
      refine sxo_pure rfl rfl rfl trivial ?_
      refine sxo_call0 rfl rfl rfl rfl (by (apply Take.cons; focus exact .tail (.tail .head)); (apply Take.cons; focus exact .tail (.tail (.tail .head))); (apply Take.cons; focus exact .tail (.tail .head)); exact .nil) (fun Kc hK hB => round_ok Kc bn bs bt bv bb bw nilS sw gv g hg seed) rfl rfl ?_ (hH := by rintro v m rfl; (exact hh_nil))
      rintro v m rfl
      simp only [List.cons_append, List.nil_append, List.append_nil, resV]
      refine sxo_end ?_
      exact sx_less (by refine .cons rfl ?_; refine .cons rfl ?_; refine .cons rfl ?_; exact .nil _) (by (apply Take.cons; focus exact .head); (apply Take.cons; focus exact .tail (.tail (.tail .head))); (apply Take.cons; focus exact .tail (.tail .head)); (apply Take.cons; focus exact .tail .head); exact .all) (J ⟨[], by simp⟩)
    · refine sx_skip ?_
      exact sx_less (by refine .cons rfl ?_; refine .cons rfl ?_; refine .cons rfl ?_; exact .nil _) (by (apply Take.cons; focus exact .tail (.tail .head)); (apply Take.cons; focus exact .tail .head); exact .all) (J ⟨g, hg⟩)
  obtain ⟨g', hg'⟩ := x
  refine sx_seq ?_
  refine sx_region ?_
  refine sxo_pure rfl rfl rfl trivial ?_
  refine sxo_end ?_
  refine sx_seq ?_
  refine sx_region ?_
  refine sxo_pure rfl rfl rfl trivial ?_
  refine sxo_end ?_
  refine sx_seq ?_
  refine sx_seq ?_
  refine sx_region ?_
  refine sxo_pure rfl rfl rfl trivial ?_
  refine sxo_pure rfl rfl rfl trivial ?_
  refine sxo_pure rfl rfl rfl trivial ?_
  refine sxo_load rfl rfl rfl (by exact .head) rfl rfl rfl rfl ?_
  refine sxo_lenV rfl rfl rfl rfl rfl rfl rfl ?_
  refine sxo_pure rfl rfl rfl trivial ?_
  refine sxo_end ?_
  refine sx_block ?_
  refine sx_loop1 ?_
  refine sx_seq ?_
  refine sx_region ?_
  refine sxo_pure rfl rfl rfl trivial ?_
  refine sxo_end ?_
  refine sx_seq ?_
  refine sx_condF rfl ?_
  refine sx_exit rfl ?_
  refine sx_seq ?_
  refine sx_region ?_
  refine sxo_pure rfl rfl rfl trivial ?_
  refine sxo_pure rfl rfl rfl trivial ?_
  refine sxo_pure rfl rfl rfl trivial ?_
  refine sxo_pure rfl rfl rfl trivial ?_
  refine sxo_store rfl rfl rfl rfl (by exact .head) rfl rfl rfl rfl rfl ?_
  refine sxo_end ?_
  refine sx_seq ?_
  refine sx_seq ?_
  refine sx_region ?_
  refine sxo_pure rfl rfl rfl trivial ?_
  refine sxo_pure rfl rfl rfl trivial ?_
  refine sxo_pure rfl rfl rfl trivial ?_
  refine sxo_load rfl rfl rfl (by exact .head) rfl rfl rfl rfl ?_
  refine sxo_pure rfl rfl rfl trivial ?_
  refine sxo_call0 rfl rfl rfl rfl (by (apply Take.cons; focus exact .tail (.tail .head)); exact .nil) (fun Kc hK hB => ProbeO Kc bv m' (by omega) seed) rfl rfl ?_ (hH := by rintro v m ⟨id, b, rfl, rfl, hpos⟩; (exact hh_nil))
  rintro v m ⟨id, b, rfl, rfl, hpos⟩
  simp only [List.cons_append, List.nil_append, List.append_nil, resV]
  refine sxo_pure rfl rfl rfl trivial ?_
  refine sxo_pure rfl rfl rfl trivial ?_
  refine sxo_pure rfl rfl rfl trivial ?_
  refine sxo_pure rfl rfl rfl trivial ?_
  refine sxo_pure rfl rfl rfl trivial ?_
  refine sxo_end ?_
  refine sx_seq ?_
  refine sx_region ?_
  refine sxo_pure rfl rfl rfl trivial ?_
  refine sxo_end ?_
  refine sx_cond rfl (fun h3 => ?_) (fun h3 => ?_)
  · have hp := hpos h3
    refine sx_seq ?_
    refine sx_region ?_
    refine sxo_pure rfl rfl rfl trivial ?_
    refine sxo_pure rfl rfl rfl trivial ?_
    refine sxo_pure rfl rfl rfl trivial ?_
    refine sxo_load rfl rfl rfl (by exact .tail .head) rfl rfl rfl rfl ?_
    refine sxo_pure rfl rfl rfl trivial ?_
    refine sxo_call0 rfl rfl rfl rfl (by (apply Take.cons; focus exact .head); exact .nil) (fun Kc hK hB => GossipO Kc bv m' (by omega) 3 seed) rfl rfl ?_ (hH := by rintro v m ⟨p, n, c, l, hl, rfl, rfl⟩; (exact hh_nil))
    rintro v m ⟨p, n, c, l, hl, rfl, rfl⟩
    simp only [List.cons_append, List.nil_append, List.append_nil, resV]
    refine sxo_build rfl rfl rfl rfl rfl rfl rfl rfl rfl ?_
    refine sxo_alloc rfl rfl rfl rfl rfl rfl (fun _ => ?_)
    refine sxo_store rfl rfl rfl rfl (by exact .head) rfl rfl rfl rfl rfl ?_
    refine sxo_end ?_
    refine sx_seq ?_
    refine sx_seq ?_
    refine sx_region ?_
    refine sxo_pure rfl rfl rfl trivial ?_
    refine sxo_load rfl rfl rfl (by exact .head) rfl rfl rfl rfl ?_
    refine sxo_len rfl rfl rfl rfl rfl (by exact Reads.own (by exact .tail (.tail .head))) rfl rfl ?_
    refine sxo_pure rfl rfl rfl trivial ?_
    refine sxo_end ?_
    refine sx_block ?_
    rename_i bx
    refine sx_less (by refine .cons rfl ?_; refine .cons rfl ?_; refine .cons rfl ?_; refine .cons rfl ?_; refine .cons rfl ?_; refine .cons rfl ?_; exact .nil _) (by (apply Take.cons; focus exact .head); (apply Take.cons; focus exact .tail .head); (apply Take.cons; focus exact .tail .head); (apply Take.cons; focus exact .tail .head); exact .all) (sx_loopI (γ := Nat × List Member) (fun x => x.1 ≤ l.length ∧ x.2.length = l.length) (fun x => l.length - x.1) (fun x => [(0, .s (evPtr bn)), (8, .s (.o (.slice none 0 0))), (15, .s (.o (.int .i64 id))), (17, .s (evPtr bx)), (121, .s (.o (.int .i64 l.length))), (122, .s (.o (.int .i64 x.1)))]) (fun x => [.blk bx 42 (encMsg ⟨8, Dig.zero, 0, nilS, nilS, nilS, ⟨p, n, c⟩, false⟩), .vec ⟨p, n, c⟩ 101 4 encM x.2, .blk bn 73 (nodeC bs bt bv bb bw nilS sw gv), bookO bb, viewO bv m', wheelO bw, .map gv ekInt evGiver g']) ((0, l)) (by simp) ?_)
    rintro ⟨j, o⟩ ⟨hj, ho⟩ ih
    simp only at hj ho
    refine sx_seq ?_
    refine sx_region ?_
    refine sxo_pure rfl rfl rfl trivial ?_
    refine sxo_end ?_
    refine sx_seq ?_
    refine sx_cond rfl (fun h => ?_) (fun h => ?_)
    · simp at h
      refine sx_skip ?_
      refine sx_seq ?_
      refine sx_block ?_
      refine sx_seq ?_
      refine sx_region ?_
      refine sxo_pure rfl rfl rfl trivial ?_
      refine sxo_pure rfl rfl rfl trivial ?_
      refine sxo_end ?_
      refine sx_region ?_
      refine sxo_pure rfl rfl rfl trivial ?_
      refine sxo_load rfl rfl rfl (by exact .head) rfl rfl rfl rfl ?_
      refine sxo_pure rfl rfl rfl trivial ?_
      refine sxo_indexAddr rfl rfl rfl rfl rfl rfl rfl (Reads.own (by exact .tail .head)) (by simp only; omega) rfl (fun _ _ => ?_)
      refine sxo_pure rfl rfl rfl trivial ?_
      refine sxo_storeEl (fo := 3) (fun (x : Member) => (⟨x.id, x.inc, x.state, 0⟩ : Member)) rfl rfl rfl rfl (by exact .head) (by exact .tail (.tail .head)) rfl (by simp; omega) (fun _ => rfl) rfl rfl rfl (fun x3 hx3 => ?_)
      refine sxo_end ?_
      refine sx_inBlock ?_
      refine sx_region ?_
      refine sxo_pure rfl rfl rfl (by omega) ?_
      refine sxo_pure rfl rfl rfl trivial ?_
      refine sxo_end ?_
      refine sx_less (by refine .cons rfl ?_; refine .cons rfl ?_; refine .cons rfl ?_; refine .cons rfl ?_; refine .cons rfl ?_; refine .cons rfl ?_; exact .nil _) (by (apply Take.cons; focus exact .tail (.tail .head)); (apply Take.cons; focus exact .head); (apply Take.cons; focus exact .tail .head); (apply Take.cons; focus exact .tail .head); (apply Take.cons; focus exact .tail .head); (apply Take.cons; focus exact .tail .head); (apply Take.cons; focus exact .tail .head); exact .nil) (ih ((j + 1, o.set ((j : Int)).toNat ⟨x3.id, x3.inc, x3.state, 0⟩)) (⟨by simp only; omega, by simp; omega⟩) (by simp only; omega))
    · refine sx_nilVec encOut 56 40 ?_
      refine sx_exit rfl ?_
      refine sx_region ?_
      refine sxo_pure rfl rfl rfl trivial ?_
      refine sxo_pure rfl rfl rfl trivial ?_
      refine sxo_load rfl rfl rfl (by exact .tail .head) rfl rfl rfl rfl ?_
      refine sxo_build rfl rfl rfl rfl rfl rfl rfl rfl rfl ?_
      refine sxo_buildSlice rfl rfl rfl rfl rfl rfl rfl rfl rfl rfl rfl rfl rfl (fun _ => ?_)
      rename_i bq
      refine sxo_append (lx := [((id, ⟨8, Dig.zero, 0, nilS, nilS, nilS, ⟨p, n, c⟩, false⟩) : Int × Msg)]) rfl rfl rfl rfl rfl rfl rfl rfl rfl rfl (by exact .tail .head) (Reads.one (by exact .head) rfl rfl) (fun _ => rfl) rfl rfl rfl (by simp) (fun p2 n2 c2 => ?_)
      refine sxo_pure rfl rfl rfl trivial ?_
      refine sxo_end ?_
      refine sx_seq ?_
      refine sx_region ?_
      refine sxo_pure rfl rfl rfl trivial ?_
      refine sxo_pure rfl rfl rfl trivial ?_
      refine sxo_pure rfl rfl rfl trivial ?_
      refine sxo_end ?_
      refine sx_retL hret hro hk (.tmp rfl (.tmp rfl .nil)) ⟨m', g', p2, n2, c2, 0, hv', by omega, hg', fun _ h => by omega, rfl, rfl⟩ (by (apply Take.cons; focus exact .tail (.tail (.tail (.tail .head)))); (apply Take.cons; focus exact .tail (.tail (.tail (.tail .head)))); (apply Take.cons; focus exact .tail (.tail (.tail (.tail .head)))); (apply Take.cons; focus exact .tail (.tail (.tail (.tail .head)))); (apply Take.cons; focus exact .tail (.tail (.tail (.tail .head)))); exact .nil)
  · refine sx_skip ?_
    refine sx_seq ?_
    refine sx_region ?_
    refine sxo_pure rfl rfl rfl trivial ?_
    refine sxo_pure rfl rfl rfl trivial ?_
    refine sxo_pure rfl rfl rfl trivial ?_
    refine sxo_end ?_
    refine sx_retL hret hro hk (.tmp rfl (.tmp rfl .nil)) ⟨m', g', none, 0, 0, 0, hv', by omega, hg', by simp, rfl, rfl⟩ (by (apply Take.cons; focus exact .tail .head); (apply Take.cons; focus exact .tail .head); (apply Take.cons; focus exact .head); (apply Take.cons; focus exact .head); (apply Take.cons; focus exact .head); exact .nil)
end
end Go.SX
