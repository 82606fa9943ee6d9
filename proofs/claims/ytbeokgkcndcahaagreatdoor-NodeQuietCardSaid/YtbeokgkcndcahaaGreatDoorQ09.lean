/-
  maps.Keys, maps.Values, slices.Collect and what they lean on, at the program's own types.
  From the shelf's contracts of the sort to entries of memory.
  DERIVED: THE SHELF's CONTRACTS AT THIS DUMP, IN PLAIN WORDS (tools/lay-plain.mjs out of 'TryzShelf.lean', which tools/lay-shelf.mjs wrote): THE SAME DECLARATIONS UNDER THE SAME NAMES: 'import', 'namespace', 'open', 'def', 'theorem' AND NOTHING ELSE: no command of the shelf's: FOR A HAND-IN. Each laying: the table of numbers ('.._ren') and one theorem, a field a fact of the dump's own or the kernel's comparison; each contract: ONE APPLICATION.
-/
import Derived.Test.YtbeokgkcndcahaaGreatDoorQ08
import Derived.Test.YtbeokgkcndcahaaGreatDoorQ07
import Derived.Test.YtbeokgkcndcahaaGreatDoorQ05
import Derived.Sort.Row
import Derived.Sort.Grow
import Derived.Sort.EncStr
import Derived.Shelf.Small.Bits
import Derived.Shelf.Small.Wraps
import Derived.Shelf.Strconv.Itoa0
import Derived.Shelf.Sort.Plain
import Derived.Shelf.Bits.Mul64
import Derived.Shelf.Slices.Turned
import Derived.Ground.Names2Prog
import Derived.Shelf.Slices.Clone
import Derived.Shelf.Slices.SearchI
import Derived.Shelf.Slices.In.SortNone
import Derived.Shelf.Bytes.SlSearch0
import Derived.Ground.SlbCloneProg
import Derived.Shelf.Bytes.SlClone
import Derived.Shelf.Bytes.SlEqualAll
import Derived.Shelf.Bytes.Small
import Derived.Test.YtbeokgkcndcahaaGreatDoorProg
set_option linter.all false
namespace Go.SX
open Go.Proofs
attribute [local irreducible] SX SXo
@[reducible] def encI (n : Int) : List Ch := [.c (.int .i64 n)]
@[reducible] def encS (s : ByteArray) : List Ch := [.c (.string s)]
/-- A member of a view, as it lies in memory. -/
structure Member where
  id : Int
  inc : Int
  state : Int
  since : Int
@[reducible] def Member.z : Member := ⟨0, 0, 0, 0⟩
@[reducible] def encM (x : Member) : List Ch := [.c (.int .i64 x.id), .c (.int .i64 x.inc), .c (.int .i64 x.state), .c (.int .i64 x.since)]
@[reducible] def evM (x : Member) : SV1 := .g (encM x)
structure Known where
  id : Int
  strikes : Int
  til : Int
  bytes : Int
@[reducible] def Known.z : Known := ⟨0, 0, 0, 0⟩
@[reducible] def evKnown (x : Known) : SV1 := .g [.c (.int .i64 x.id), .c (.int .i64 x.strikes), .c (.int .i64 x.til), .c (.int .i64 x.bytes)]
structure Giver where
  bytes : Int
  wants : Bool
@[reducible] def Giver.z : Giver := ⟨0, false⟩
@[reducible] def evGiver (x : Giver) : SV1 := .g [.c (.int .i64 x.bytes), .c (.bool x.wants)]
instance : HasZ Member := ⟨Member.z⟩
instance : HasZ Known := ⟨Known.z⟩
instance : HasZ Giver := ⟨Giver.z⟩
@[reducible] def evPtr (b : Nat) : SV1 := .o (.pointer (some ⟨b, 0, none⟩))
@[reducible] def evPO (o : Option Nat) : SV1 := .o (.pointer (o.map fun b => ⟨b, 0, none⟩))
instance : HasZ (Option Nat) := ⟨none⟩
theorem KeysKnown_ok (K : Hp) (mb : Nat) : TR Tryz.prog K 149 [.o (.map (some mb))] []
    fun v m => ∃ bm, v = .s (.o (.func (.func 247) #[] #[.pointer (some ⟨bm, 0, none⟩)])) ∧ m = [.blk bm 144 [.c (.map (some mb))]] := by
  refine tr_intro Tryz.func149 rfl rfl rfl fun cx hro hk hret => ?_
  refine sx_seq ?_
  refine sx_region ?_
  refine sxo_box rfl rfl rfl rfl rfl rfl (fun _ => ?_)
  refine sxo_pure rfl rfl rfl trivial ?_
  refine sxo_end ?_
  refine sx_seq ?_
  refine sx_region ?_
  refine sxo_pure rfl rfl rfl trivial ?_
  refine sxo_pure rfl rfl rfl trivial ?_
  refine sxo_end ?_
  refine sx_ret hret hro hk (.tmp rfl .nil) ⟨_, rfl, rfl⟩
theorem KeysKnown_seq (K : Hp) (bm mb : Nat) (l : List (Int × Known)) : SeqV Tryz.prog K 247 [.o (.pointer (some ⟨bm, 0, none⟩))]
    [.blk bm 144 [.c (.map (some mb))], .map mb ekInt evKnown l] ekInt l.length fun r => r.Perm (l.map fun x => x.1) := by
  intro Kc _ Y I m0 h0 hY
  simp only [List.cons_append, List.nil_append]
  refine tr_intro Tryz.func247 rfl rfl rfl fun cx hro hk hret => ?_
  refine sx_seq ?_
  refine sx_region ?_
  refine sxo_load rfl rfl rfl (by exact .head) rfl rfl rfl rfl ?_
  refine sxo_range rfl rfl rfl (.tail .head) rfl rfl rfl rfl (fun rb => ?_)
  refine sxo_end ?_
  refine sx_block ?_
  refine sx_less (env' := [(0, .s (.o Y)), (5, .s (.o (.pointer (some ⟨rb, 0, none⟩))))]) (.cons rfl (.cons rfl (.nil _))) .all ?_
  refine sx_loop (γ := ItS Int (l.map fun x => x.1) I) (fun x => (l.map fun x => x.1).length - x.seen.length) (fun _ => _) (fun x => itE rb mb ekInt evKnown l x.seen :: .blk bm 144 [.c (.map (some mb))] :: x.m) ⟨[], m0, List.nodup_nil, fun j h => absurd h List.not_mem_nil, h0⟩ ?_
  intro x ih
  refine sx_seq ?_
  refine sx_region ?_
  refine sxo_next rfl rfl rfl .head rfl rfl (fun hall => ?_) (fun j y hjy hjn => ?_)
  · refine sxo_pure rfl rfl rfl trivial ?_
    refine sxo_end ?_
    refine sx_seq ?_
    refine sx_condF rfl ?_
    refine sx_exit rfl ?_
    refine sx_recast (.map mb ekInt evKnown l) .head itE_map ?_
    refine sx_perm (.swap _ _ _) ?_
    refine sx_end hret hro hk .nil ⟨_, _, seen_perm x.hn x.hlt (fun j hj => hall j (by simpa using hj)), x.hI, rfl⟩
  · refine sxo_pure rfl rfl rfl trivial ?_
    refine sxo_end ?_
    refine sx_seq ?_
    refine sx_condT rfl ?_
    refine sx_skip ?_
    refine sx_block ?_
    refine sx_seq ?_
    refine sx_region ?_
    refine sxo_entry rfl rfl rfl .head hjy rfl rfl ?_
    refine sxo_pure rfl rfl rfl trivial ?_
    refine sxo_pure rfl rfl rfl trivial ?_
    refine sxo_end ?_
    refine sx_seq ?_
    refine sx_region ?_
    refine sxo_pure rfl rfl rfl trivial ?_
    refine sxo_pure rfl rfl rfl trivial ?_
    have hj2 : (l.map fun x => x.1)[j]? = some ((fun x : Int × Known => x.1) y) := by simp [hjy]
    refine sxo_callVR rfl rfl rfl rfl (by first | exact .skip (.skip .all) | exact .skip (.skip (.skip .all))) rfl rfl (fun K' hK' _ => hY K' hK' _ _ _ (by simpa using x.short (List.getElem?_eq_some_iff.1 hj2).1 hjn) x.hI) (fun v m' hv => ?_)
    obtain ⟨rfl, hI'⟩ := hv
    simp only [List.cons_append, List.nil_append]
    refine sxo_pure rfl rfl rfl trivial ?_
    refine sxo_end ?_
    refine sx_condF rfl ?_
    refine sx_skip ?_
    refine sx_inBlock ?_
    obtain ⟨z, hz1, hz2, hz3⟩ := x.next hj2 hjn hI'
    have := ih z hz3
    rw [hz1, hz2] at this
    first
      | exact sx_less (.cons rfl (.cons rfl (.nil _))) .all this
      | exact sx_less (.cons rfl (.cons rfl (.nil _))) (.cons (.tail .head) (.cons (.tail .head) (.skip .all))) this
theorem KeysMember_ok (K : Hp) (mb : Nat) : TR Tryz.prog K 84 [.o (.map (some mb))] []
    fun v m => ∃ bm, v = .s (.o (.func (.func 173) #[] #[.pointer (some ⟨bm, 0, none⟩)])) ∧ m = [.blk bm 141 [.c (.map (some mb))]] := by
  refine tr_intro Tryz.func84 rfl rfl rfl fun cx hro hk hret => ?_
  refine sx_seq ?_
  refine sx_region ?_
  refine sxo_box rfl rfl rfl rfl rfl rfl (fun _ => ?_)
  refine sxo_pure rfl rfl rfl trivial ?_
  refine sxo_end ?_
  refine sx_seq ?_
  refine sx_region ?_
  refine sxo_pure rfl rfl rfl trivial ?_
  refine sxo_pure rfl rfl rfl trivial ?_
  refine sxo_end ?_
  refine sx_ret hret hro hk (.tmp rfl .nil) ⟨_, rfl, rfl⟩
theorem KeysMember_seq (K : Hp) (bm mb : Nat) (l : List (Int × Member)) : SeqV Tryz.prog K 173 [.o (.pointer (some ⟨bm, 0, none⟩))]
    [.blk bm 141 [.c (.map (some mb))], .map mb ekInt evM l] ekInt l.length fun r => r.Perm (l.map fun x => x.1) := by
  intro Kc _ Y I m0 h0 hY
  simp only [List.cons_append, List.nil_append]
  refine tr_intro Tryz.func173 rfl rfl rfl fun cx hro hk hret => ?_
  refine sx_seq ?_
  refine sx_region ?_
  refine sxo_load rfl rfl rfl (by exact .head) rfl rfl rfl rfl ?_
  refine sxo_range rfl rfl rfl (.tail .head) rfl rfl rfl rfl (fun rb => ?_)
  refine sxo_end ?_
  refine sx_block ?_
  refine sx_less (env' := [(0, .s (.o Y)), (5, .s (.o (.pointer (some ⟨rb, 0, none⟩))))]) (.cons rfl (.cons rfl (.nil _))) .all ?_
  refine sx_loop (γ := ItS Int (l.map fun x => x.1) I) (fun x => (l.map fun x => x.1).length - x.seen.length) (fun _ => _) (fun x => itE rb mb ekInt evM l x.seen :: .blk bm 141 [.c (.map (some mb))] :: x.m) ⟨[], m0, List.nodup_nil, fun j h => absurd h List.not_mem_nil, h0⟩ ?_
  intro x ih
  refine sx_seq ?_
  refine sx_region ?_
  refine sxo_next rfl rfl rfl .head rfl rfl (fun hall => ?_) (fun j y hjy hjn => ?_)
  · refine sxo_pure rfl rfl rfl trivial ?_
    refine sxo_end ?_
    refine sx_seq ?_
    refine sx_condF rfl ?_
    refine sx_exit rfl ?_
    refine sx_recast (.map mb ekInt evM l) .head itE_map ?_
    refine sx_perm (.swap _ _ _) ?_
    refine sx_end hret hro hk .nil ⟨_, _, seen_perm x.hn x.hlt (fun j hj => hall j (by simpa using hj)), x.hI, rfl⟩
  · refine sxo_pure rfl rfl rfl trivial ?_
    refine sxo_end ?_
    refine sx_seq ?_
    refine sx_condT rfl ?_
    refine sx_skip ?_
    refine sx_block ?_
    refine sx_seq ?_
    refine sx_region ?_
    refine sxo_entry rfl rfl rfl .head hjy rfl rfl ?_
    refine sxo_pure rfl rfl rfl trivial ?_
    refine sxo_pure rfl rfl rfl trivial ?_
    refine sxo_end ?_
    refine sx_seq ?_
    refine sx_region ?_
    refine sxo_pure rfl rfl rfl trivial ?_
    refine sxo_pure rfl rfl rfl trivial ?_
    have hj2 : (l.map fun x => x.1)[j]? = some ((fun x : Int × Member => x.1) y) := by simp [hjy]
    refine sxo_callVR rfl rfl rfl rfl (by first | exact .skip (.skip .all) | exact .skip (.skip (.skip .all))) rfl rfl (fun K' hK' _ => hY K' hK' _ _ _ (by simpa using x.short (List.getElem?_eq_some_iff.1 hj2).1 hjn) x.hI) (fun v m' hv => ?_)
    obtain ⟨rfl, hI'⟩ := hv
    simp only [List.cons_append, List.nil_append]
    refine sxo_pure rfl rfl rfl trivial ?_
    refine sxo_end ?_
    refine sx_condF rfl ?_
    refine sx_skip ?_
    refine sx_inBlock ?_
    obtain ⟨z, hz1, hz2, hz3⟩ := x.next hj2 hjn hI'
    have := ih z hz3
    rw [hz1, hz2] at this
    first
      | exact sx_less (.cons rfl (.cons rfl (.nil _))) .all this
      | exact sx_less (.cons rfl (.cons rfl (.nil _))) (.cons (.tail .head) (.cons (.tail .head) (.skip .all))) this
theorem KeysGiver_ok (K : Hp) (mb : Nat) : TR Tryz.prog K 70 [.o (.map (some mb))] []
    fun v m => ∃ bm, v = .s (.o (.func (.func 152) #[] #[.pointer (some ⟨bm, 0, none⟩)])) ∧ m = [.blk bm 65 [.c (.map (some mb))]] := by
  refine tr_intro Tryz.func70 rfl rfl rfl fun cx hro hk hret => ?_
  refine sx_seq ?_
  refine sx_region ?_
  refine sxo_box rfl rfl rfl rfl rfl rfl (fun _ => ?_)
  refine sxo_pure rfl rfl rfl trivial ?_
  refine sxo_end ?_
  refine sx_seq ?_
  refine sx_region ?_
  refine sxo_pure rfl rfl rfl trivial ?_
  refine sxo_pure rfl rfl rfl trivial ?_
  refine sxo_end ?_
  refine sx_ret hret hro hk (.tmp rfl .nil) ⟨_, rfl, rfl⟩
theorem KeysGiver_seq (K : Hp) (bm mb : Nat) (l : List (Int × Giver)) : SeqV Tryz.prog K 152 [.o (.pointer (some ⟨bm, 0, none⟩))]
    [.blk bm 65 [.c (.map (some mb))], .map mb ekInt evGiver l] ekInt l.length fun r => r.Perm (l.map fun x => x.1) := by
  intro Kc _ Y I m0 h0 hY
  simp only [List.cons_append, List.nil_append]
  refine tr_intro Tryz.func152 rfl rfl rfl fun cx hro hk hret => ?_
  refine sx_seq ?_
  refine sx_region ?_
  refine sxo_load rfl rfl rfl (by exact .head) rfl rfl rfl rfl ?_
  refine sxo_range rfl rfl rfl (.tail .head) rfl rfl rfl rfl (fun rb => ?_)
  refine sxo_end ?_
  refine sx_block ?_
  refine sx_less (env' := [(0, .s (.o Y)), (5, .s (.o (.pointer (some ⟨rb, 0, none⟩))))]) (.cons rfl (.cons rfl (.nil _))) .all ?_
  refine sx_loop (γ := ItS Int (l.map fun x => x.1) I) (fun x => (l.map fun x => x.1).length - x.seen.length) (fun _ => _) (fun x => itE rb mb ekInt evGiver l x.seen :: .blk bm 65 [.c (.map (some mb))] :: x.m) ⟨[], m0, List.nodup_nil, fun j h => absurd h List.not_mem_nil, h0⟩ ?_
  intro x ih
  refine sx_seq ?_
  refine sx_region ?_
  refine sxo_next rfl rfl rfl .head rfl rfl (fun hall => ?_) (fun j y hjy hjn => ?_)
  · refine sxo_pure rfl rfl rfl trivial ?_
    refine sxo_end ?_
    refine sx_seq ?_
    refine sx_condF rfl ?_
    refine sx_exit rfl ?_
    refine sx_recast (.map mb ekInt evGiver l) .head itE_map ?_
    refine sx_perm (.swap _ _ _) ?_
    refine sx_end hret hro hk .nil ⟨_, _, seen_perm x.hn x.hlt (fun j hj => hall j (by simpa using hj)), x.hI, rfl⟩
  · refine sxo_pure rfl rfl rfl trivial ?_
    refine sxo_end ?_
    refine sx_seq ?_
    refine sx_condT rfl ?_
    refine sx_skip ?_
    refine sx_block ?_
    refine sx_seq ?_
    refine sx_region ?_
    refine sxo_entry rfl rfl rfl .head hjy rfl rfl ?_
    refine sxo_pure rfl rfl rfl trivial ?_
    refine sxo_pure rfl rfl rfl trivial ?_
    refine sxo_end ?_
    refine sx_seq ?_
    refine sx_region ?_
    refine sxo_pure rfl rfl rfl trivial ?_
    refine sxo_pure rfl rfl rfl trivial ?_
    have hj2 : (l.map fun x => x.1)[j]? = some ((fun x : Int × Giver => x.1) y) := by simp [hjy]
    refine sxo_callVR rfl rfl rfl rfl (by first | exact .skip (.skip .all) | exact .skip (.skip (.skip .all))) rfl rfl (fun K' hK' _ => hY K' hK' _ _ _ (by simpa using x.short (List.getElem?_eq_some_iff.1 hj2).1 hjn) x.hI) (fun v m' hv => ?_)
    obtain ⟨rfl, hI'⟩ := hv
    simp only [List.cons_append, List.nil_append]
    refine sxo_pure rfl rfl rfl trivial ?_
    refine sxo_end ?_
    refine sx_condF rfl ?_
    refine sx_skip ?_
    refine sx_inBlock ?_
    obtain ⟨z, hz1, hz2, hz3⟩ := x.next hj2 hjn hI'
    have := ih z hz3
    rw [hz1, hz2] at this
    first
      | exact sx_less (.cons rfl (.cons rfl (.nil _))) .all this
      | exact sx_less (.cons rfl (.cons rfl (.nil _))) (.cons (.tail .head) (.cons (.tail .head) (.skip .all))) this
theorem KeysNames_ok (K : Hp) (mb : Nat) : TR Tryz.prog K 113 [.o (.map (some mb))] []
    fun v m => ∃ bm, v = .s (.o (.func (.func 210) #[] #[.pointer (some ⟨bm, 0, none⟩)])) ∧ m = [.blk bm 58 [.c (.map (some mb))]] := by
  refine tr_intro Tryz.func113 rfl rfl rfl fun cx hro hk hret => ?_
  refine sx_seq ?_
  refine sx_region ?_
  refine sxo_box rfl rfl rfl rfl rfl rfl (fun _ => ?_)
  refine sxo_pure rfl rfl rfl trivial ?_
  refine sxo_end ?_
  refine sx_seq ?_
  refine sx_region ?_
  refine sxo_pure rfl rfl rfl trivial ?_
  refine sxo_pure rfl rfl rfl trivial ?_
  refine sxo_end ?_
  refine sx_ret hret hro hk (.tmp rfl .nil) ⟨_, rfl, rfl⟩
theorem KeysNames_seq (K : Hp) (bm mb : Nat) (l : List (ByteArray × Option Nat)) : SeqV Tryz.prog K 210 [.o (.pointer (some ⟨bm, 0, none⟩))]
    [.blk bm 58 [.c (.map (some mb))], .map mb ekStr evPO l] ekStr l.length fun r => r.Perm (l.map fun x => x.1) := by
  intro Kc _ Y I m0 h0 hY
  simp only [List.cons_append, List.nil_append]
  refine tr_intro Tryz.func210 rfl rfl rfl fun cx hro hk hret => ?_
  refine sx_seq ?_
  refine sx_region ?_
  refine sxo_load rfl rfl rfl (by exact .head) rfl rfl rfl rfl ?_
  refine sxo_range rfl rfl rfl (.tail .head) rfl rfl rfl rfl (fun rb => ?_)
  refine sxo_end ?_
  refine sx_block ?_
  refine sx_less (env' := [(0, .s (.o Y)), (5, .s (.o (.pointer (some ⟨rb, 0, none⟩))))]) (.cons rfl (.cons rfl (.nil _))) .all ?_
  refine sx_loop (γ := ItS ByteArray (l.map fun x => x.1) I) (fun x => (l.map fun x => x.1).length - x.seen.length) (fun _ => _) (fun x => itE rb mb ekStr evPO l x.seen :: .blk bm 58 [.c (.map (some mb))] :: x.m) ⟨[], m0, List.nodup_nil, fun j h => absurd h List.not_mem_nil, h0⟩ ?_
  intro x ih
  refine sx_seq ?_
  refine sx_region ?_
  refine sxo_next rfl rfl rfl .head rfl rfl (fun hall => ?_) (fun j y hjy hjn => ?_)
  · refine sxo_pure rfl rfl rfl trivial ?_
    refine sxo_end ?_
    refine sx_seq ?_
    refine sx_condF rfl ?_
    refine sx_exit rfl ?_
    refine sx_recast (.map mb ekStr evPO l) .head itE_map ?_
    refine sx_perm (.swap _ _ _) ?_
    refine sx_end hret hro hk .nil ⟨_, _, seen_perm x.hn x.hlt (fun j hj => hall j (by simpa using hj)), x.hI, rfl⟩
  · refine sxo_pure rfl rfl rfl trivial ?_
    refine sxo_end ?_
    refine sx_seq ?_
    refine sx_condT rfl ?_
    refine sx_skip ?_
    refine sx_block ?_
    refine sx_seq ?_
    refine sx_region ?_
    refine sxo_entry rfl rfl rfl .head hjy rfl rfl ?_
    refine sxo_pure rfl rfl rfl trivial ?_
    refine sxo_pure rfl rfl rfl trivial ?_
    refine sxo_end ?_
    refine sx_seq ?_
    refine sx_region ?_
    refine sxo_pure rfl rfl rfl trivial ?_
    refine sxo_pure rfl rfl rfl trivial ?_
    have hj2 : (l.map fun x => x.1)[j]? = some ((fun x : ByteArray × Option Nat => x.1) y) := by simp [hjy]
    refine sxo_callVR rfl rfl rfl rfl (by first | exact .skip (.skip .all) | exact .skip (.skip (.skip .all))) rfl rfl (fun K' hK' _ => hY K' hK' _ _ _ (by simpa using x.short (List.getElem?_eq_some_iff.1 hj2).1 hjn) x.hI) (fun v m' hv => ?_)
    obtain ⟨rfl, hI'⟩ := hv
    simp only [List.cons_append, List.nil_append]
    refine sxo_pure rfl rfl rfl trivial ?_
    refine sxo_end ?_
    refine sx_condF rfl ?_
    refine sx_skip ?_
    refine sx_inBlock ?_
    obtain ⟨z, hz1, hz2, hz3⟩ := x.next hj2 hjn hI'
    have := ih z hz3
    rw [hz1, hz2] at this
    first
      | exact sx_less (.cons rfl (.cons rfl (.nil _))) .all this
      | exact sx_less (.cons rfl (.cons rfl (.nil _))) (.cons (.tail .head) (.cons (.tail .head) (.skip .all))) this
theorem ValsMember_ok (K : Hp) (mb : Nat) : TR Tryz.prog K 297 [.o (.map (some mb))] []
    fun v m => ∃ bm, v = .s (.o (.func (.func 371) #[] #[.pointer (some ⟨bm, 0, none⟩)])) ∧ m = [.blk bm 141 [.c (.map (some mb))]] := by
  refine tr_intro Tryz.func297 rfl rfl rfl fun cx hro hk hret => ?_
  refine sx_seq ?_
  refine sx_region ?_
  refine sxo_box rfl rfl rfl rfl rfl rfl (fun _ => ?_)
  refine sxo_pure rfl rfl rfl trivial ?_
  refine sxo_end ?_
  refine sx_seq ?_
  refine sx_region ?_
  refine sxo_pure rfl rfl rfl trivial ?_
  refine sxo_pure rfl rfl rfl trivial ?_
  refine sxo_end ?_
  refine sx_ret hret hro hk (.tmp rfl .nil) ⟨_, rfl, rfl⟩
theorem ValsMember_seq (K : Hp) (bm mb : Nat) (l : List (Int × Member)) : SeqV Tryz.prog K 371 [.o (.pointer (some ⟨bm, 0, none⟩))]
    [.blk bm 141 [.c (.map (some mb))], .map mb ekInt evM l] evM l.length fun r => r.Perm (l.map fun x => x.2) := by
  intro Kc _ Y I m0 h0 hY
  simp only [List.cons_append, List.nil_append]
  refine tr_intro Tryz.func371 rfl rfl rfl fun cx hro hk hret => ?_
  refine sx_seq ?_
  refine sx_region ?_
  refine sxo_load rfl rfl rfl (by exact .head) rfl rfl rfl rfl ?_
  refine sxo_range rfl rfl rfl (.tail .head) rfl rfl rfl rfl (fun rb => ?_)
  refine sxo_end ?_
  refine sx_block ?_
  refine sx_less (env' := [(0, .s (.o Y)), (6, .s (.o (.pointer (some ⟨rb, 0, none⟩))))]) (.cons rfl (.cons rfl (.nil _))) .all ?_
  refine sx_loop (γ := ItS Member (l.map fun x => x.2) I) (fun x => (l.map fun x => x.2).length - x.seen.length) (fun _ => _) (fun x => itE rb mb ekInt evM l x.seen :: .blk bm 141 [.c (.map (some mb))] :: x.m) ⟨[], m0, List.nodup_nil, fun j h => absurd h List.not_mem_nil, h0⟩ ?_
  intro x ih
  refine sx_seq ?_
  refine sx_region ?_
  refine sxo_next rfl rfl rfl .head rfl rfl (fun hall => ?_) (fun j y hjy hjn => ?_)
  · refine sxo_pure rfl rfl rfl trivial ?_
    refine sxo_end ?_
    refine sx_seq ?_
    refine sx_condF rfl ?_
    refine sx_exit rfl ?_
    refine sx_recast (.map mb ekInt evM l) .head itE_map ?_
    refine sx_perm (.swap _ _ _) ?_
    refine sx_end hret hro hk .nil ⟨_, _, seen_perm x.hn x.hlt (fun j hj => hall j (by simpa using hj)), x.hI, rfl⟩
  · refine sxo_pure rfl rfl rfl trivial ?_
    refine sxo_end ?_
    refine sx_seq ?_
    refine sx_condT rfl ?_
    refine sx_skip ?_
    refine sx_block ?_
    refine sx_seq ?_
    refine sx_region ?_
    refine sxo_entry rfl rfl rfl .head hjy rfl rfl ?_
    refine sxo_pure rfl rfl rfl trivial ?_
    refine sxo_alloc rfl rfl rfl rfl rfl rfl (fun _ => ?_)
    refine sxo_store rfl rfl rfl rfl (by exact .head) rfl rfl rfl rfl rfl ?_
    refine sxo_end ?_
    refine sx_seq ?_
    refine sx_region ?_
    refine sxo_pure rfl rfl rfl trivial ?_
    refine sxo_load rfl rfl rfl (by exact .head) rfl rfl rfl rfl ?_
    have hj2 : (l.map fun x => x.2)[j]? = some ((fun x : Int × Member => x.2) y) := by simp [hjy]
    refine sxo_callVR rfl rfl rfl rfl (by first | exact .skip (.skip .all) | exact .skip (.skip (.skip .all))) rfl rfl (fun K' hK' _ => hY K' hK' _ _ _ (by simpa using x.short (List.getElem?_eq_some_iff.1 hj2).1 hjn) x.hI) (fun v m' hv => ?_)
    obtain ⟨rfl, hI'⟩ := hv
    simp only [List.cons_append, List.nil_append]
    refine sxo_pure rfl rfl rfl trivial ?_
    refine sxo_end ?_
    refine sx_condF rfl ?_
    refine sx_skip ?_
    refine sx_inBlock ?_
    obtain ⟨z, hz1, hz2, hz3⟩ := x.next hj2 hjn hI'
    have := ih z hz3
    rw [hz1, hz2] at this
    first
      | exact sx_less (.cons rfl (.cons rfl (.nil _))) .all this
      | exact sx_less (.cons rfl (.cons rfl (.nil _))) (.cons (.tail .head) (.cons (.tail .head) (.skip .all))) this
theorem AppInt_ok (K : Hp) (f : FuncId) (cap : List SV1) (M : List Ent) (B : Nat) (Pm : List Int → Prop) (p : Option Addr) (n c : Nat) (l0 : List Int) (hB : (l0.length + B) * 8 ≤ 140737488355328) (hS : SeqV Tryz.prog K f cap M ekInt B Pm) :
    TR Tryz.prog K 248 [.o (.slice p n c), .o (.func (.func f) #[] (cap.map SV1.val).toArray)] (.vec ⟨p, n, c⟩ 3 1 encI l0 :: M)
      fun v m => ∃ p' n' c' l, Pm l ∧ v = .s (.o (.slice p' n' c')) ∧ m = .vec ⟨p', n', c'⟩ 3 1 encI (l0 ++ l) :: M := by
  refine tr_intro Tryz.func248 rfl rfl rfl fun cx hro hk hret => ?_
  refine sx_seq ?_
  refine sx_region ?_
  refine sxo_box rfl rfl rfl rfl rfl rfl (fun _ => ?_)
  refine sxo_pure rfl rfl rfl trivial ?_
  refine sxo_end ?_
  refine sx_seq ?_
  refine sx_seq ?_
  refine sx_region ?_
  refine sxo_pure rfl rfl rfl trivial ?_
  refine sxo_end ?_
  refine sx_block ?_
  rename_i bs
  refine sx_rangeFunc (fun l => .o (.func (.yield l) #[] #[]) :: cap) (fun l lp _ m => ∃ q r, Pm q ∧ (∃ p' n' c', r = [lpE l lp .ready none, .blk bs 37 [.c (.slice p' n' c')], .vec ⟨p', n', c'⟩ 3 1 encI (l0 ++ q)]) ∧ m = M ++ r) hro rfl (fun l => by simp [SV1.val]) .all
    (fun Kc l lp hK _ hlp => ?_) (fun b l lp v m hlp hq => ?_)
  · refine TR.perm (List.perm_append_comm (l₁ := [_, _, _])) (hS Kc hK (.func (.yield l) #[] #[]) (fun q r => ∃ p' n' c', r = [lpE l lp .ready none, .blk bs 37 [.c (.slice p' n' c')], .vec ⟨p', n', c'⟩ 3 1 encI (l0 ++ q)]) [_, _, _] ⟨p, n, c, by simp [SV1.ch]⟩ ?_)
    rintro K' hK' pre k m hpre ⟨p1, n1, c1, rfl⟩
    refine trv_yield1 hlp rfl fun cx hro hk hret => ?_
    refine sx_region ?_
    refine sxo_pure rfl rfl rfl trivial ?_
    refine sxo_end ?_
    refine sx_beginRound hro (by exact .head) ?_
    refine sx_block ?_
    refine sx_region ?_
    refine sxo_load rfl rfl rfl (by exact .tail .head) rfl rfl rfl rfl ?_
    refine sxo_pure rfl rfl rfl trivial ?_
    refine sxo_buildSlice rfl rfl rfl rfl rfl rfl rfl rfl rfl rfl rfl rfl rfl (fun _ => ?_)
    refine sxo_append (lx := [k]) rfl rfl rfl rfl rfl rfl rfl rfl rfl rfl (by exact .tail (.tail (.tail .head))) (Reads.one (by exact .head) rfl rfl) (fun _ => rfl) rfl rfl rfl (by simp; omega) (fun p2 n2 c2 => ?_)
    refine sxo_store rfl rfl rfl rfl (by exact .tail (.tail (.tail .head))) rfl rfl rfl rfl rfl ?_
    refine sxo_end ?_
    refine sx_inBlock ?_
    refine sx_less (M := [lpE l lp .busy none, .blk bs 37 [.c (.slice p2 n2 c2)], .vec ⟨p2, n2, c2⟩ 3 1 encI (l0 ++ pre ++ [k])]) (.nil _) (by (apply Take.cons; focus exact .tail (.tail (.tail .head))); (apply Take.cons; focus exact .head); (apply Take.cons; focus exact .head); exact .nil) ?_
    exact sx_round_end hret hro hk .head ⟨rfl, p2, n2, c2, by simp⟩
  · obtain ⟨q, r, hq, ⟨p1, n1, c1, rfl⟩, rfl⟩ := hq
    refine ⟨_, _, _, .mid, by decide, ?_⟩
    refine sx_perm (mem' := .blk bs 37 [.c (.slice p1 n1 c1)] :: dfE b :: .vec ⟨p1, n1, c1⟩ 3 1 encI (l0 ++ q) :: M) ?_ ?_
    · refine (List.perm_append_comm.append_right _).trans ?_
      exact .cons _ ((List.perm_append_comm (l₁ := _ :: M) (l₂ := [dfE b])))
    simp only [Option.map_none, Option.toList_none, List.nil_append]
    refine sx_inBlock ?_
    refine sx_seq ?_
    refine sx_region ?_
    refine sxo_load rfl rfl rfl (by exact .head) rfl rfl rfl rfl ?_
    refine sxo_pure rfl rfl rfl trivial ?_
    refine sxo_end ?_
    refine sx_less (M := dfE b :: .vec ⟨p1, n1, c1⟩ 3 1 encI (l0 ++ q) :: M) (.cons (t := 4) rfl (.nil _)) (.skip .all) ?_
    exact sx_ret_df hret hro hk .head (.tmp rfl .nil) ⟨_, _, _, _, hq, rfl, rfl⟩
theorem AppIntC_ok (K : Hp) (f : FuncId) (cap : List SV1) (M : List Ent) (B : Nat) (Pm : List Int → Prop) (hB : B * 8 ≤ 140737488355328) (hS : SeqV Tryz.prog K f cap M ekInt B Pm) :
    TR Tryz.prog K 150 [.o (.func (.func f) #[] (cap.map SV1.val).toArray)] M
      fun v m => ∃ p' n' c' l, Pm l ∧ v = .s (.o (.slice p' n' c')) ∧ m = .vec ⟨p', n', c'⟩ 3 1 encI l :: M := by
  refine tr_intro Tryz.func150 rfl rfl rfl fun cx hro hk hret => ?_
  refine sx_nilVec encI 3 1 ?_
  refine sx_seq ?_
  refine sx_region ?_
  refine sxo_pure rfl rfl rfl trivial ?_
  refine sxo_end ?_
  refine sx_seq ?_
  refine sx_region ?_
  refine sxo_pure rfl rfl rfl trivial ?_
  refine sxo_call [.o (.slice none 0 0), .o (.func (.func f) #[] (cap.map SV1.val).toArray)] rfl rfl rfl rfl rfl .all rfl rfl (fun Kc hK _ => AppInt_ok Kc f cap M B Pm none 0 0 [] (by simpa using hB) (fun Kd hd => hS Kd (hK.trans hd))) ?_
  rintro v m ⟨p', n', c', l, hl, rfl, rfl⟩
  simp only [List.nil_append, List.append_nil]
  refine sxo_pure rfl rfl rfl trivial ?_
  refine sxo_end ?_
  refine sx_ret hret hro hk (.tmp rfl .nil) ⟨_, _, _, _, hl, rfl, rfl⟩
theorem AppMember_ok (K : Hp) (f : FuncId) (cap : List SV1) (M : List Ent) (B : Nat) (Pm : List Member → Prop) (p : Option Addr) (n c : Nat) (l0 : List Member) (hB : (l0.length + B) * 32 ≤ 140737488355328) (hS : SeqV Tryz.prog K f cap M evM B Pm) :
    TR Tryz.prog K 370 [.o (.slice p n c), .o (.func (.func f) #[] (cap.map SV1.val).toArray)] (.vec ⟨p, n, c⟩ 101 4 encM l0 :: M)
      fun v m => ∃ p' n' c' l, Pm l ∧ v = .s (.o (.slice p' n' c')) ∧ m = .vec ⟨p', n', c'⟩ 101 4 encM (l0 ++ l) :: M := by
  refine tr_intro Tryz.func370 rfl rfl rfl fun cx hro hk hret => ?_
  refine sx_seq ?_
  refine sx_region ?_
  refine sxo_box rfl rfl rfl rfl rfl rfl (fun _ => ?_)
  refine sxo_pure rfl rfl rfl trivial ?_
  refine sxo_end ?_
  refine sx_seq ?_
  refine sx_seq ?_
  refine sx_region ?_
  refine sxo_pure rfl rfl rfl trivial ?_
  refine sxo_end ?_
  refine sx_block ?_
  rename_i bs
  refine sx_rangeFunc (fun l => .o (.func (.yield l) #[] #[]) :: cap) (fun l lp _ m => ∃ q r, Pm q ∧ (∃ p' n' c', r = [lpE l lp .ready none, .blk bs 40 [.c (.slice p' n' c')], .vec ⟨p', n', c'⟩ 101 4 encM (l0 ++ q)]) ∧ m = M ++ r) hro rfl (fun l => by simp [SV1.val]) .all
    (fun Kc l lp hK _ hlp => ?_) (fun b l lp v m hlp hq => ?_)
  · refine TR.perm (List.perm_append_comm (l₁ := [_, _, _])) (hS Kc hK (.func (.yield l) #[] #[]) (fun q r => ∃ p' n' c', r = [lpE l lp .ready none, .blk bs 40 [.c (.slice p' n' c')], .vec ⟨p', n', c'⟩ 101 4 encM (l0 ++ q)]) [_, _, _] ⟨p, n, c, by simp [SV1.ch]⟩ ?_)
    rintro K' hK' pre k m hpre ⟨p1, n1, c1, rfl⟩
    refine trv_yield1 hlp rfl fun cx hro hk hret => ?_
    refine sx_region ?_
    refine sxo_alloc rfl rfl rfl rfl rfl rfl (fun _ => ?_)
    refine sxo_store rfl rfl rfl rfl (by exact .head) rfl rfl rfl rfl rfl ?_
    refine sxo_end ?_
    refine sx_beginRound hro (by exact .tail .head) ?_
    refine sx_block ?_
    refine sx_region ?_
    refine sxo_load rfl rfl rfl (by exact .tail (.tail .head)) rfl rfl rfl rfl ?_
    refine sxo_load rfl rfl rfl (by exact .tail .head) rfl rfl rfl rfl ?_
    refine sxo_buildSlice rfl rfl rfl rfl rfl rfl rfl rfl rfl rfl rfl rfl rfl (fun _ => ?_)
    refine sxo_append (lx := [k]) rfl rfl rfl rfl rfl rfl rfl rfl rfl rfl (by exact .tail (.tail (.tail (.tail .head)))) (Reads.one (by exact .head) rfl rfl) (fun _ => rfl) rfl rfl rfl (by simp; omega) (fun p2 n2 c2 => ?_)
    refine sxo_store rfl rfl rfl rfl (by exact .tail (.tail (.tail (.tail .head)))) rfl rfl rfl rfl rfl ?_
    refine sxo_end ?_
    refine sx_inBlock ?_
    refine sx_less (M := [lpE l lp .busy none, .blk bs 40 [.c (.slice p2 n2 c2)], .vec ⟨p2, n2, c2⟩ 101 4 encM (l0 ++ pre ++ [k])]) (.nil _) (by (apply Take.cons; focus exact .tail (.tail (.tail .head))); (apply Take.cons; focus exact .head); (apply Take.cons; focus exact .head); exact .nil) ?_
    exact sx_round_end hret hro hk .head ⟨rfl, p2, n2, c2, by simp⟩
  · obtain ⟨q, r, hq, ⟨p1, n1, c1, rfl⟩, rfl⟩ := hq
    refine ⟨_, _, _, .mid, by decide, ?_⟩
    refine sx_perm (mem' := .blk bs 40 [.c (.slice p1 n1 c1)] :: dfE b :: .vec ⟨p1, n1, c1⟩ 101 4 encM (l0 ++ q) :: M) ?_ ?_
    · refine (List.perm_append_comm.append_right _).trans ?_
      exact .cons _ ((List.perm_append_comm (l₁ := _ :: M) (l₂ := [dfE b])))
    simp only [Option.map_none, Option.toList_none, List.nil_append]
    refine sx_inBlock ?_
    refine sx_seq ?_
    refine sx_region ?_
    refine sxo_load rfl rfl rfl (by exact .head) rfl rfl rfl rfl ?_
    refine sxo_pure rfl rfl rfl trivial ?_
    refine sxo_end ?_
    refine sx_less (M := dfE b :: .vec ⟨p1, n1, c1⟩ 101 4 encM (l0 ++ q) :: M) (.cons (t := 4) rfl (.nil _)) (.skip .all) ?_
    exact sx_ret_df hret hro hk .head (.tmp rfl .nil) ⟨_, _, _, _, hq, rfl, rfl⟩
theorem AppMemberC_ok (K : Hp) (f : FuncId) (cap : List SV1) (M : List Ent) (B : Nat) (Pm : List Member → Prop) (hB : B * 32 ≤ 140737488355328) (hS : SeqV Tryz.prog K f cap M evM B Pm) :
    TR Tryz.prog K 296 [.o (.func (.func f) #[] (cap.map SV1.val).toArray)] M
      fun v m => ∃ p' n' c' l, Pm l ∧ v = .s (.o (.slice p' n' c')) ∧ m = .vec ⟨p', n', c'⟩ 101 4 encM l :: M := by
  refine tr_intro Tryz.func296 rfl rfl rfl fun cx hro hk hret => ?_
  refine sx_nilVec encM 101 4 ?_
  refine sx_seq ?_
  refine sx_region ?_
  refine sxo_pure rfl rfl rfl trivial ?_
  refine sxo_end ?_
  refine sx_seq ?_
  refine sx_region ?_
  refine sxo_pure rfl rfl rfl trivial ?_
  refine sxo_call [.o (.slice none 0 0), .o (.func (.func f) #[] (cap.map SV1.val).toArray)] rfl rfl rfl rfl rfl .all rfl rfl (fun Kc hK _ => AppMember_ok Kc f cap M B Pm none 0 0 [] (by simpa using hB) (fun Kd hd => hS Kd (hK.trans hd))) ?_
  rintro v m ⟨p', n', c', l, hl, rfl, rfl⟩
  simp only [List.nil_append, List.append_nil]
  refine sxo_pure rfl rfl rfl trivial ?_
  refine sxo_end ?_
  refine sx_ret hret hro hk (.tmp rfl .nil) ⟨_, _, _, _, hl, rfl, rfl⟩
theorem AppStr_ok (K : Hp) (f : FuncId) (cap : List SV1) (M : List Ent) (B : Nat) (Pm : List ByteArray → Prop) (p : Option Addr) (n c : Nat) (l0 : List ByteArray) (hB : (l0.length + B) * 16 ≤ 140737488355328) (hS : SeqV Tryz.prog K f cap M ekStr B Pm) :
    TR Tryz.prog K 310 [.o (.slice p n c), .o (.func (.func f) #[] (cap.map SV1.val).toArray)] (.vec ⟨p, n, c⟩ 9 1 encS l0 :: M)
      fun v m => ∃ p' n' c' l, Pm l ∧ v = .s (.o (.slice p' n' c')) ∧ m = .vec ⟨p', n', c'⟩ 9 1 encS (l0 ++ l) :: M := by
  refine tr_intro Tryz.func310 rfl rfl rfl fun cx hro hk hret => ?_
  refine sx_seq ?_
  refine sx_region ?_
  refine sxo_box rfl rfl rfl rfl rfl rfl (fun _ => ?_)
  refine sxo_pure rfl rfl rfl trivial ?_
  refine sxo_end ?_
  refine sx_seq ?_
  refine sx_seq ?_
  refine sx_region ?_
  refine sxo_pure rfl rfl rfl trivial ?_
  refine sxo_end ?_
  refine sx_block ?_
  rename_i bs
  refine sx_rangeFunc (fun l => .o (.func (.yield l) #[] #[]) :: cap) (fun l lp _ m => ∃ q r, Pm q ∧ (∃ p' n' c', r = [lpE l lp .ready none, .blk bs 121 [.c (.slice p' n' c')], .vec ⟨p', n', c'⟩ 9 1 encS (l0 ++ q)]) ∧ m = M ++ r) hro rfl (fun l => by simp [SV1.val]) .all
    (fun Kc l lp hK _ hlp => ?_) (fun b l lp v m hlp hq => ?_)
  · refine TR.perm (List.perm_append_comm (l₁ := [_, _, _])) (hS Kc hK (.func (.yield l) #[] #[]) (fun q r => ∃ p' n' c', r = [lpE l lp .ready none, .blk bs 121 [.c (.slice p' n' c')], .vec ⟨p', n', c'⟩ 9 1 encS (l0 ++ q)]) [_, _, _] ⟨p, n, c, by simp [SV1.ch]⟩ ?_)
    rintro K' hK' pre k m hpre ⟨p1, n1, c1, rfl⟩
    refine trv_yield1 hlp rfl fun cx hro hk hret => ?_
    refine sx_region ?_
    refine sxo_pure rfl rfl rfl trivial ?_
    refine sxo_end ?_
    refine sx_beginRound hro (by exact .head) ?_
    refine sx_block ?_
    refine sx_region ?_
    refine sxo_load rfl rfl rfl (by exact .tail .head) rfl rfl rfl rfl ?_
    refine sxo_pure rfl rfl rfl trivial ?_
    refine sxo_buildSlice rfl rfl rfl rfl rfl rfl rfl rfl rfl rfl rfl rfl rfl (fun _ => ?_)
    refine sxo_append (lx := [k]) rfl rfl rfl rfl rfl rfl rfl rfl rfl rfl (by exact .tail (.tail (.tail .head))) (Reads.one (by exact .head) rfl rfl) (fun _ => rfl) rfl rfl rfl (by simp; omega) (fun p2 n2 c2 => ?_)
    refine sxo_store rfl rfl rfl rfl (by exact .tail (.tail (.tail .head))) rfl rfl rfl rfl rfl ?_
    refine sxo_end ?_
    refine sx_inBlock ?_
    refine sx_less (M := [lpE l lp .busy none, .blk bs 121 [.c (.slice p2 n2 c2)], .vec ⟨p2, n2, c2⟩ 9 1 encS (l0 ++ pre ++ [k])]) (.nil _) (by (apply Take.cons; focus exact .tail (.tail (.tail .head))); (apply Take.cons; focus exact .head); (apply Take.cons; focus exact .head); exact .nil) ?_
    exact sx_round_end hret hro hk .head ⟨rfl, p2, n2, c2, by simp⟩
  · obtain ⟨q, r, hq, ⟨p1, n1, c1, rfl⟩, rfl⟩ := hq
    refine ⟨_, _, _, .mid, by decide, ?_⟩
    refine sx_perm (mem' := .blk bs 121 [.c (.slice p1 n1 c1)] :: dfE b :: .vec ⟨p1, n1, c1⟩ 9 1 encS (l0 ++ q) :: M) ?_ ?_
    · refine (List.perm_append_comm.append_right _).trans ?_
      exact .cons _ ((List.perm_append_comm (l₁ := _ :: M) (l₂ := [dfE b])))
    simp only [Option.map_none, Option.toList_none, List.nil_append]
    refine sx_inBlock ?_
    refine sx_seq ?_
    refine sx_region ?_
    refine sxo_load rfl rfl rfl (by exact .head) rfl rfl rfl rfl ?_
    refine sxo_pure rfl rfl rfl trivial ?_
    refine sxo_end ?_
    refine sx_less (M := dfE b :: .vec ⟨p1, n1, c1⟩ 9 1 encS (l0 ++ q) :: M) (.cons (t := 4) rfl (.nil _)) (.skip .all) ?_
    exact sx_ret_df hret hro hk .head (.tmp rfl .nil) ⟨_, _, _, _, hq, rfl, rfl⟩
theorem AppStrC_ok (K : Hp) (f : FuncId) (cap : List SV1) (M : List Ent) (B : Nat) (Pm : List ByteArray → Prop) (hB : B * 16 ≤ 140737488355328) (hS : SeqV Tryz.prog K f cap M ekStr B Pm) :
    TR Tryz.prog K 208 [.o (.func (.func f) #[] (cap.map SV1.val).toArray)] M
      fun v m => ∃ p' n' c' l, Pm l ∧ v = .s (.o (.slice p' n' c')) ∧ m = .vec ⟨p', n', c'⟩ 9 1 encS l :: M := by
  refine tr_intro Tryz.func208 rfl rfl rfl fun cx hro hk hret => ?_
  refine sx_nilVec encS 9 1 ?_
  refine sx_seq ?_
  refine sx_region ?_
  refine sxo_pure rfl rfl rfl trivial ?_
  refine sxo_end ?_
  refine sx_seq ?_
  refine sx_region ?_
  refine sxo_pure rfl rfl rfl trivial ?_
  refine sxo_call [.o (.slice none 0 0), .o (.func (.func f) #[] (cap.map SV1.val).toArray)] rfl rfl rfl rfl rfl .all rfl rfl (fun Kc hK _ => AppStr_ok Kc f cap M B Pm none 0 0 [] (by simpa using hB) (fun Kd hd => hS Kd (hK.trans hd))) ?_
  rintro v m ⟨p', n', c', l, hl, rfl, rfl⟩
  simp only [List.nil_append, List.append_nil]
  refine sxo_pure rfl rfl rfl trivial ?_
  refine sxo_end ?_
  refine sx_ret hret hro hk (.tmp rfl .nil) ⟨_, _, _, _, hl, rfl, rfl⟩
end Go.SX

namespace Go.SX
theorem MSat.mono {K H H' : Hp} {m : List Ent} (s : MSat K m H) (u : Sub H H') : MSat K m H' := by
  obtain ⟨h, d, s1, s2, o⟩ := s; exact ⟨h, d, s1.trans u, s2.trans u, o⟩
theorem vw_mapBlock {w : World} {b : Nat} {cs : Array Value} {T : TypeId} {fz : Nat × Nat} (f : Array Value → Array Value) (h : vw w b = some (.cells cs T fz)) : vw (Sort.mapBlock w b f) = put (vw w) b (.cells (f cs) T fz) := by
  funext k
  unfold vw at *
  by_cases e : k = b
  · subst e
    obtain ⟨hlt, he⟩ := Array.getElem?_eq_some_iff.1 h
    rw [put_self]
    simp [Sort.mapBlock, hlt, Array.getElem_modify_self, he, Sort.onCells]
  · rw [put_ne _ _ e]
    simp [Sort.mapBlock, Array.getElem?_modify, Ne.symm e]
theorem sub_grow (w : World) (os : Array Obj) : Sub (vw w) (vw (Sort.grow w os)) := fun b o h => by
  unfold vw at *
  have hlt := (Array.getElem?_eq_some_iff.1 h).1
  simp only [Sort.grow]
  rw [Array.getElem?_append_left hlt]; exact h
section
variable {α : Type} [Inhabited α] {K : Hp} {r : List Ent} {T : TypeId} {b o n c : Nat} {l d : List α}
/-- The row holds what the slice reads as. -/
theorem vec_holds (e1 : α → Value) {w : World} (h : VecAt ⟨some ⟨b, o, none⟩, n, c⟩ T 1 (fun x => [Ch.c (e1 x)]) l (vw w)) : Sort.Holds e1 w b o l.toArray ∧ b < w.heap.size ∧ n = l.length := by
  rcases h with ⟨h1, _⟩ | ⟨b', o', cs, h1, h2, h3, h4, h5, h6, h7⟩
  · cases h1
  · cases h1
    refine ⟨fun j hj => ?_, vw_lt h4, h2⟩
    simp only [List.size_toArray] at hj
    have := h7 j l[j] (List.getElem?_eq_getElem hj) 0 (e1 l[j]) (by simp [flat, Ch.vals])
    simp only [Nat.mul_one, Nat.add_zero] at this
    refine ⟨?_, ?_⟩
    · rw [vw_cell h4 this]; simp [hj]
    · unfold vw at h4; simp [World.frozen?, h4]
theorem vec_sorted (e1 : α → Value) {w : World} {k : Nat} {os : Array Obj} (hd : d.length = l.length) (h : MSat K (.vec ⟨some ⟨b, o, none⟩, n, c⟩ T 1 (fun x => [Ch.c (e1 x)]) l :: r) (vw w)) :
    MSat K (.vec ⟨some ⟨b, o, none⟩, n, c⟩ T 1 (fun x => [Ch.c (e1 x)]) d :: r) (vw (Sort.grow (Sort.putRow e1 (Sort.ahead w k) b o d.toArray) os)) := by
  refine MSat.mono ?_ (sub_grow _ _)
  have hv := h.vec
  rcases hv with ⟨h1, _⟩ | ⟨b', o', cs, h1, h2, h3, h4, h5, h6, h7⟩
  · cases h1
  · cases h1
    have h2' : n = l.length := h2
    have h3' : n ≤ c := h3
    have h5' : o + c * 1 ≤ cs.size := h5
    have h4' : vw (Sort.ahead w k) b = some (.cells cs T (0, 0)) := h4
    rw [Sort.putRow, vw_mapBlock _ h4']
    refine h.turn (fun h1 he => ?_) (fun h1 s1 he => ?_)
    · rcases he with ⟨q, _⟩ | ⟨_, _, _, q, _, _, q4, _⟩
      · cases q
      · cases q; simp [q4]
    · refine .inr ⟨b, o, _, rfl, show n = d.length by omega, h3, put_self _ _ _, by simpa [Sort.putCells] using h5, fun x hx => by simp [flatW, Ch.w], fun i x hx j v hv => ?_⟩
      simp only [flat, Ch.vals, List.append_nil] at hv
      have hil := (List.getElem?_eq_some_iff.1 hx).1
      have hj0 : j = 0 := by
        have := (List.getElem?_eq_some_iff.1 hv).1
        simp at this; exact this
      subst hj0
      simp only [List.getElem?_cons_zero, Option.some.injEq] at hv
      subst hv
      have hlt : o + i < cs.size := by
        omega
      have hxe := (List.getElem?_eq_some_iff.1 hx).2
      simp [Sort.putCells, hlt, hil, hxe]
end
/-- Strings in their order. -/
def sortS (l : List ByteArray) : List ByteArray := ((l.map fun s => s.data.toList).mergeSort fun x y => decide (x ≤ y)).map fun b => ⟨b.toArray⟩
theorem sortS_perm (l : List ByteArray) : (sortS l).Perm l := by
  have h := (List.mergeSort_perm (l.map fun s => s.data.toList) fun x y => decide (x ≤ y)).map fun b : List UInt8 => (⟨b.toArray⟩ : ByteArray)
  rw [List.map_map] at h
  have : (l.map ((fun b : List UInt8 => (⟨b.toArray⟩ : ByteArray)) ∘ fun s => s.data.toList)) = l := by
    conv => rhs; rw [← List.map_id l]
    congr 1
  rw [this] at h; exact h
end Go.SX

namespace Go.Proofs
open Go.Shelf
def Tryz.lays128_ren : Go.Shelf.Ren := ⟨fun | 128 => 339 | n => n, fun | 51 => 319 | 3 => 3 | 4 => 4 | 46 => 323 | 5 => 5 | 9 => 9 | n => n, fun | n => n⟩
theorem Tryz.lays128 : Go.Proofs.Lays.n128 Tryz.prog Tryz.lays128_ren := {
  mixed := by kernel_rfl
  f128 := Tryz.func339.trans (congrArg some (by kernel_rfl))
  t3 := Tryz.underlying3
  a3 := Tryz.isAgg3
  z3 := Tryz.sizeOf3
  v3 := Tryz.zeroValue3
  t4 := Tryz.underlying4
  a4 := Tryz.isAgg4
  z4 := Tryz.sizeOf4
  v4 := Tryz.zeroValue4
  t5 := Tryz.underlying5
  a5 := Tryz.isAgg5
  z5 := Tryz.sizeOf5
  v5 := Tryz.zeroValue5
  t9 := Tryz.underlying9
  a9 := Tryz.isAgg9
  z9 := Tryz.sizeOf9
  v9 := Tryz.zeroValue9
  t46 := Tryz.underlying323
  a46 := Tryz.isAgg323
  z46 := Tryz.sizeOf323
  v46 := Tryz.zeroValue323
  t51 := Tryz.underlying319
  a51 := Tryz.isAgg319
  z51 := Tryz.sizeOf319
  v51 := Tryz.zeroValue319 }
/-- bits.Len32: "Len32 returns the minimum number of bits required to represent x; the result is 0 for x == 0.": IT RETURNS 'Lib.bitLen x'; the world is as it was. ('h0', 'h1': x is a uint32.) (LAID: no walk: one application.) -/
theorem Tryz.bits_Len32 (x : Int) (w : World) (h0 : 0 ≤ x) (h1 : x ≤ 4294967295) :
    Calls Tryz.prog 339 #[.int .u32 x] w fun e w' => e = .returned (.int .i64 (Lib.bitLen x.toNat)) ∧ w' = w := Any.bits_Len32 Tryz.lays128 x w h0 h1
def Tryz.lays125_ren : Go.Shelf.Ren := ⟨fun | 125 => 250 | 128 => 339 | 129 => 340 | n => n, fun | 46 => 323 | 3 => 3 | 51 => 319 | 53 => 43 | 4 => 4 | 5 => 5 | 9 => 9 | n => n, fun | n => n⟩
theorem Tryz.lays125 : Go.Proofs.Lays.n125 Tryz.prog Tryz.lays125_ren := {
  mixed := by kernel_rfl
  f125 := Tryz.func250.trans (congrArg some (by kernel_rfl))
  f128 := Tryz.func339.trans (congrArg some (by kernel_rfl))
  f129 := Tryz.func340.trans (congrArg some (by kernel_rfl))
  t3 := Tryz.underlying3
  a3 := Tryz.isAgg3
  z3 := Tryz.sizeOf3
  v3 := Tryz.zeroValue3
  t4 := Tryz.underlying4
  a4 := Tryz.isAgg4
  z4 := Tryz.sizeOf4
  v4 := Tryz.zeroValue4
  t5 := Tryz.underlying5
  a5 := Tryz.isAgg5
  z5 := Tryz.sizeOf5
  v5 := Tryz.zeroValue5
  t9 := Tryz.underlying9
  a9 := Tryz.isAgg9
  z9 := Tryz.sizeOf9
  v9 := Tryz.zeroValue9
  t46 := Tryz.underlying323
  a46 := Tryz.isAgg323
  z46 := Tryz.sizeOf323
  v46 := Tryz.zeroValue323
  t51 := Tryz.underlying319
  a51 := Tryz.isAgg319
  z51 := Tryz.sizeOf319
  v51 := Tryz.zeroValue319
  t53 := Tryz.underlying43
  a53 := Tryz.isAgg43
  z53 := Tryz.sizeOf43
  v53 := Tryz.zeroValue43 }
/-- bits.Len: "Len returns the minimum number of bits required to represent x; the result is 0 for x == 0.": IT RETURNS 'Lib.bitLen x'; the world is as it was. (A uint has 64 bits in the model.) ITS CALLEE bits.Len64 IS MET BY ITS OWN CONTRACT OFF THE SHELF (lay that first). (LAID: no walk: one application.) -/
theorem Tryz.bits_Len (x : Int) (w : World) (h0 : 0 ≤ x) (h1 : x ≤ 18446744073709551615) :
    Calls Tryz.prog 250 #[.int .u64 x] w fun e w' => e = .returned (.int .i64 (Lib.bitLen x.toNat)) ∧ w' = w := Any.bits_Len Tryz.lays125 x w h0 h1
def Tryz.lays215_ren : Go.Shelf.Ren := ⟨fun | 215 => 345 | n => n, fun | 3 => 3 | 4 => 4 | n => n, fun | n => n⟩
theorem Tryz.lays215 : Go.Proofs.Lays.n215 Tryz.prog Tryz.lays215_ren := {
  mixed := by kernel_rfl
  f215 := Tryz.func345.trans (congrArg some (by kernel_rfl))
  t3 := Tryz.underlying3
  a3 := Tryz.isAgg3
  z3 := Tryz.sizeOf3
  v3 := Tryz.zeroValue3
  t4 := Tryz.underlying4
  a4 := Tryz.isAgg4
  z4 := Tryz.sizeOf4
  v4 := Tryz.zeroValue4 }
open Go.RowKit in
/-- cmp.isNaN at int: 'x != x': false. (LAID: no walk: one application.) -/
theorem Tryz.cmp_isNaN_int (x : Int) (w : World) :
    Calls Tryz.prog 345 #[.int .i64 x] w fun e w' => e = .returned (.bool false) ∧ w' = w := Any.cmp_isNaN_int Tryz.lays215 x w
def Tryz.lays122_ren : Go.Shelf.Ren := ⟨fun | 122 => 258 | 215 => 345 | n => n, fun | 3 => 3 | 4 => 4 | n => n, fun | n => n⟩
theorem Tryz.lays122 : Go.Proofs.Lays.n122 Tryz.prog Tryz.lays122_ren := {
  mixed := by kernel_rfl
  f122 := Tryz.func258.trans (congrArg some (by kernel_rfl))
  f215 := Tryz.func345.trans (congrArg some (by kernel_rfl))
  t3 := Tryz.underlying3
  a3 := Tryz.isAgg3
  z3 := Tryz.sizeOf3
  v3 := Tryz.zeroValue3
  t4 := Tryz.underlying4
  a4 := Tryz.isAgg4
  z4 := Tryz.sizeOf4
  v4 := Tryz.zeroValue4 }
open Go.RowKit in
/-- cmp.Compare at int: "Compare returns -1 if x is less than y, 0 if x equals y, +1 if x is greater than y.": IT RETURNS 'Lib.compareInt x y'; the world is as it was. (LAID: no walk: one application.) -/
theorem Tryz.cmp_Compare_int (x y : Int) (w : World) :
    Calls Tryz.prog 258 #[.int .i64 x, .int .i64 y] w fun e w' => e = .returned (.int .i64 (Lib.compareInt x y)) ∧ w' = w := Any.cmp_Compare_int Tryz.lays122 x y w
def Tryz.lays129_ren : Go.Shelf.Ren := ⟨fun | 129 => 340 | n => n, fun | 53 => 43 | 3 => 3 | 4 => 4 | 46 => 323 | 5 => 5 | 9 => 9 | n => n, fun | n => n⟩
theorem Tryz.lays129 : Go.Proofs.Lays.n129 Tryz.prog Tryz.lays129_ren := {
  mixed := by kernel_rfl
  f129 := Tryz.func340.trans (congrArg some (by kernel_rfl))
  t3 := Tryz.underlying3
  a3 := Tryz.isAgg3
  z3 := Tryz.sizeOf3
  v3 := Tryz.zeroValue3
  t4 := Tryz.underlying4
  a4 := Tryz.isAgg4
  z4 := Tryz.sizeOf4
  v4 := Tryz.zeroValue4
  t5 := Tryz.underlying5
  a5 := Tryz.isAgg5
  z5 := Tryz.sizeOf5
  v5 := Tryz.zeroValue5
  t9 := Tryz.underlying9
  a9 := Tryz.isAgg9
  z9 := Tryz.sizeOf9
  v9 := Tryz.zeroValue9
  t46 := Tryz.underlying323
  a46 := Tryz.isAgg323
  z46 := Tryz.sizeOf323
  v46 := Tryz.zeroValue323
  t53 := Tryz.underlying43
  a53 := Tryz.isAgg43
  z53 := Tryz.sizeOf43
  v53 := Tryz.zeroValue43 }
/-- bits.Len64: "Len64 returns the minimum number of bits required to represent x; the result is 0 for x == 0.": IT RETURNS 'Lib.bitLen x'; the world is as it was. ('h0', 'h1': x is a uint64.) (LAID: no walk: one application.) -/
theorem Tryz.bits_Len64 (x : Int) (w : World) (h0 : 0 ≤ x) (h1 : x ≤ 18446744073709551615) :
    Calls Tryz.prog 340 #[.int .u64 x] w fun e w' => e = .returned (.int .i64 (Lib.bitLen x.toNat)) ∧ w' = w := Any.bits_Len64 Tryz.lays129 x w h0 h1
def Tryz.lays189_ren : Go.Shelf.Ren := ⟨fun | 189 => 151 | 125 => 250 | 257 => 249 | 128 => 339 | 129 => 340 | 294 => 330 | 295 => 331 | 296 => 332 | 297 => 333 | 298 => 334 | 299 => 335 | 216 => 336 | 300 => 337 | 301 => 338 | 328 => 393 | 329 => 394 | 330 => 395 | 331 => 396 | 332 => 397 | 215 => 345 | 343 => 424 | n => n, fun | 28 => 37 | 3 => 3 | 46 => 323 | 0 => 0 | 51 => 319 | 53 => 43 | 4 => 4 | 183 => 419 | 182 => 418 | 131 => 97 | 5 => 5 | 9 => 9 | 218 => 466 | 222 => 469 | 228 => 489 | 229 => 490 | n => n, fun | n => n⟩
theorem Tryz.lays189 : Go.Proofs.Lays.n189 Tryz.prog Tryz.lays189_ren := {
  mixed := by kernel_rfl
  f125 := Tryz.func250.trans (congrArg some (by kernel_rfl))
  f128 := Tryz.func339.trans (congrArg some (by kernel_rfl))
  f129 := Tryz.func340.trans (congrArg some (by kernel_rfl))
  f189 := Tryz.func151.trans (congrArg some (by kernel_rfl))
  f215 := Tryz.func345.trans (congrArg some (by kernel_rfl))
  f216 := Tryz.func336.trans (congrArg some (by kernel_rfl))
  f257 := Tryz.func249.trans (congrArg some (by kernel_rfl))
  f294 := Tryz.func330.trans (congrArg some (by kernel_rfl))
  f295 := Tryz.func331.trans (congrArg some (by kernel_rfl))
  f296 := Tryz.func332.trans (congrArg some (by kernel_rfl))
  f297 := Tryz.func333.trans (congrArg some (by kernel_rfl))
  f298 := Tryz.func334.trans (congrArg some (by kernel_rfl))
  f299 := Tryz.func335.trans (congrArg some (by kernel_rfl))
  f300 := Tryz.func337.trans (congrArg some (by kernel_rfl))
  f301 := Tryz.func338.trans (congrArg some (by kernel_rfl))
  f328 := Tryz.func393.trans (congrArg some (by kernel_rfl))
  f329 := Tryz.func394.trans (congrArg some (by kernel_rfl))
  f330 := Tryz.func395.trans (congrArg some (by kernel_rfl))
  f331 := Tryz.func396.trans (congrArg some (by kernel_rfl))
  f332 := Tryz.func397.trans (congrArg some (by kernel_rfl))
  f343 := Tryz.func424.trans (congrArg some (by kernel_rfl))
  t0 := Tryz.underlying0
  a0 := Tryz.isAgg0
  z0 := Tryz.sizeOf0
  v0 := Tryz.zeroValue0
  t3 := Tryz.underlying3
  a3 := Tryz.isAgg3
  z3 := Tryz.sizeOf3
  v3 := Tryz.zeroValue3
  t4 := Tryz.underlying4
  a4 := Tryz.isAgg4
  z4 := Tryz.sizeOf4
  v4 := Tryz.zeroValue4
  t5 := Tryz.underlying5
  a5 := Tryz.isAgg5
  z5 := Tryz.sizeOf5
  v5 := Tryz.zeroValue5
  t9 := Tryz.underlying9
  a9 := Tryz.isAgg9
  z9 := Tryz.sizeOf9
  v9 := Tryz.zeroValue9
  t28 := Tryz.underlying37
  a28 := Tryz.isAgg37
  z28 := Tryz.sizeOf37
  v28 := Tryz.zeroValue37
  t46 := Tryz.underlying323
  a46 := Tryz.isAgg323
  z46 := Tryz.sizeOf323
  v46 := Tryz.zeroValue323
  t51 := Tryz.underlying319
  a51 := Tryz.isAgg319
  z51 := Tryz.sizeOf319
  v51 := Tryz.zeroValue319
  t53 := Tryz.underlying43
  a53 := Tryz.isAgg43
  z53 := Tryz.sizeOf43
  v53 := Tryz.zeroValue43
  t131 := Tryz.underlying97
  a131 := Tryz.isAgg97
  z131 := Tryz.sizeOf97
  v131 := Tryz.zeroValue97
  t182 := Tryz.underlying418
  a182 := Tryz.isAgg418
  z182 := Tryz.sizeOf418
  v182 := Tryz.zeroValue418
  t183 := Tryz.underlying419
  a183 := Tryz.isAgg419
  z183 := Tryz.sizeOf419
  v183 := Tryz.zeroValue419
  t218 := Tryz.underlying466
  a218 := Tryz.isAgg466
  z218 := Tryz.sizeOf466
  v218 := Tryz.zeroValue466
  t222 := Tryz.underlying469
  a222 := Tryz.isAgg469
  z222 := Tryz.sizeOf469
  v222 := Tryz.zeroValue469
  t228 := Tryz.underlying489
  a228 := Tryz.isAgg489
  z228 := Tryz.sizeOf489
  v228 := Tryz.zeroValue489
  t229 := Tryz.underlying490
  a229 := Tryz.isAgg490
  z229 := Tryz.sizeOf490
  v229 := Tryz.zeroValue490 }
open Go.Sort Go.RowKit in
theorem Tryz.slices_Sort_int (blk off cap : Nat) (zs : List Int) (w : World) (hH : Holds (Value.int .i64) w blk off zs.toArray) (hblk : blk < w.heap.size) (hsz : zs.length < 4611686018427387904) :
    Calls Tryz.prog 151 #[.slice (some ⟨blk, off, none⟩) zs.length cap] w fun e w' =>
      e = .returned (.tuple #[]) ∧ ∃ n os, w' = grow (putRow (Value.int .i64) (Sort.ahead w n) blk off (zs.mergeSort fun x y => decide (x ≤ y)).toArray) os := Any.slices_Sort_int Tryz.lays189 blk off cap zs w hH hblk hsz
def Tryz.lays190_ren : Go.Shelf.Ren := ⟨fun | 190 => 209 | 125 => 250 | 258 => 311 | 128 => 339 | 129 => 340 | 302 => 377 | 303 => 378 | 304 => 379 | 305 => 380 | 306 => 381 | 307 => 382 | 308 => 383 | 309 => 384 | 310 => 385 | 333 => 419 | 329 => 394 | 330 => 395 | 334 => 420 | 335 => 421 | 336 => 422 | 344 => 432 | n => n, fun | 31 => 121 | 9 => 9 | 3 => 3 | 46 => 323 | 0 => 0 | 51 => 319 | 53 => 43 | 4 => 4 | 183 => 419 | 182 => 418 | 131 => 97 | 5 => 5 | 218 => 466 | 222 => 469 | 228 => 489 | 229 => 490 | n => n, fun | n => n⟩
theorem Tryz.lays190 : Go.Proofs.Lays.n190 Tryz.prog Tryz.lays190_ren := {
  mixed := by kernel_rfl
  f125 := Tryz.func250.trans (congrArg some (by kernel_rfl))
  f128 := Tryz.func339.trans (congrArg some (by kernel_rfl))
  f129 := Tryz.func340.trans (congrArg some (by kernel_rfl))
  f190 := Tryz.func209.trans (congrArg some (by kernel_rfl))
  f258 := Tryz.func311.trans (congrArg some (by kernel_rfl))
  f302 := Tryz.func377.trans (congrArg some (by kernel_rfl))
  f303 := Tryz.func378.trans (congrArg some (by kernel_rfl))
  f304 := Tryz.func379.trans (congrArg some (by kernel_rfl))
  f305 := Tryz.func380.trans (congrArg some (by kernel_rfl))
  f306 := Tryz.func381.trans (congrArg some (by kernel_rfl))
  f307 := Tryz.func382.trans (congrArg some (by kernel_rfl))
  f308 := Tryz.func383.trans (congrArg some (by kernel_rfl))
  f309 := Tryz.func384.trans (congrArg some (by kernel_rfl))
  f310 := Tryz.func385.trans (congrArg some (by kernel_rfl))
  f329 := Tryz.func394.trans (congrArg some (by kernel_rfl))
  f330 := Tryz.func395.trans (congrArg some (by kernel_rfl))
  f333 := Tryz.func419.trans (congrArg some (by kernel_rfl))
  f334 := Tryz.func420.trans (congrArg some (by kernel_rfl))
  f335 := Tryz.func421.trans (congrArg some (by kernel_rfl))
  f336 := Tryz.func422.trans (congrArg some (by kernel_rfl))
  f344 := Tryz.func432.trans (congrArg some (by kernel_rfl))
  t0 := Tryz.underlying0
  a0 := Tryz.isAgg0
  z0 := Tryz.sizeOf0
  v0 := Tryz.zeroValue0
  t3 := Tryz.underlying3
  a3 := Tryz.isAgg3
  z3 := Tryz.sizeOf3
  v3 := Tryz.zeroValue3
  t4 := Tryz.underlying4
  a4 := Tryz.isAgg4
  z4 := Tryz.sizeOf4
  v4 := Tryz.zeroValue4
  t5 := Tryz.underlying5
  a5 := Tryz.isAgg5
  z5 := Tryz.sizeOf5
  v5 := Tryz.zeroValue5
  t9 := Tryz.underlying9
  a9 := Tryz.isAgg9
  z9 := Tryz.sizeOf9
  v9 := Tryz.zeroValue9
  t31 := Tryz.underlying121
  a31 := Tryz.isAgg121
  z31 := Tryz.sizeOf121
  v31 := Tryz.zeroValue121
  t46 := Tryz.underlying323
  a46 := Tryz.isAgg323
  z46 := Tryz.sizeOf323
  v46 := Tryz.zeroValue323
  t51 := Tryz.underlying319
  a51 := Tryz.isAgg319
  z51 := Tryz.sizeOf319
  v51 := Tryz.zeroValue319
  t53 := Tryz.underlying43
  a53 := Tryz.isAgg43
  z53 := Tryz.sizeOf43
  v53 := Tryz.zeroValue43
  t131 := Tryz.underlying97
  a131 := Tryz.isAgg97
  z131 := Tryz.sizeOf97
  v131 := Tryz.zeroValue97
  t182 := Tryz.underlying418
  a182 := Tryz.isAgg418
  z182 := Tryz.sizeOf418
  v182 := Tryz.zeroValue418
  t183 := Tryz.underlying419
  a183 := Tryz.isAgg419
  z183 := Tryz.sizeOf419
  v183 := Tryz.zeroValue419
  t218 := Tryz.underlying466
  a218 := Tryz.isAgg466
  z218 := Tryz.sizeOf466
  v218 := Tryz.zeroValue466
  t222 := Tryz.underlying469
  a222 := Tryz.isAgg469
  z222 := Tryz.sizeOf469
  v222 := Tryz.zeroValue469
  t228 := Tryz.underlying489
  a228 := Tryz.isAgg489
  z228 := Tryz.sizeOf489
  v228 := Tryz.zeroValue489
  t229 := Tryz.underlying490
  a229 := Tryz.isAgg490
  z229 := Tryz.sizeOf490
  v229 := Tryz.zeroValue490 }
open Go.Sort Go.RowKit in
theorem Tryz.slices_Sort_string (blk off cap : Nat) (ss : List (List UInt8)) (w : World) (hH : Holds encStr w blk off ss.toArray) (hblk : blk < w.heap.size) (hsz : ss.length < 4611686018427387904) :
    Calls Tryz.prog 209 #[.slice (some ⟨blk, off, none⟩) ss.length cap] w fun e w' =>
      e = .returned (.tuple #[]) ∧ ∃ n os, w' = grow (putRow encStr (Sort.ahead w n) blk off (ss.mergeSort fun x y => decide (x ≤ y)).toArray) os := Any.slices_Sort_string Tryz.lays190 blk off cap ss w hH hblk hsz
def Tryz.lays264_ren : Go.Shelf.Ren := ⟨fun | 264 => 170 | n => n, fun | 53 => 43 | 46 => 323 | n => n, fun | n => n⟩
theorem Tryz.lays264 : Go.Proofs.Lays.n264 Tryz.prog Tryz.lays264_ren := {
  mixed := by kernel_rfl
  f264 := Tryz.func170.trans (congrArg some (by kernel_rfl))
  t46 := Tryz.underlying323
  a46 := Tryz.isAgg323
  z46 := Tryz.sizeOf323
  v46 := Tryz.zeroValue323
  t53 := Tryz.underlying43
  a53 := Tryz.isAgg43
  z53 := Tryz.sizeOf43
  v53 := Tryz.zeroValue43 }
open Go.RowKit Go.Lib in
theorem Tryz.bits_Mul64 (x y : Nat) (hx : x < 18446744073709551616) (hy : y < 18446744073709551616) (w : World) :
    Calls Tryz.prog 170 #[.int .u64 x, .int .u64 y] w fun e w' => e = .returned (.tuple #[.int .u64 ((x * y / 18446744073709551616 : Nat) : Int), .int .u64 ((x * y % 18446744073709551616 : Nat) : Int)]) ∧ w' = w := Any.bits_Mul64 Tryz.lays264 x y hx hy w
def Tryz.lays212_ren : Go.Shelf.Ren := ⟨fun | 212 => 389 | 263 => 423 | 264 => 170 | n => n, fun | 46 => 323 | 51 => 319 | 146 => 487 | 53 => 43 | 148 => 276 | n => n, fun | n => n⟩
theorem Tryz.lays212 : Go.Proofs.Lays.n212 Tryz.prog Tryz.lays212_ren := {
  mixed := by kernel_rfl
  f212 := Tryz.func389.trans (congrArg some (by kernel_rfl))
  f263 := Tryz.func423.trans (congrArg some (by kernel_rfl))
  f264 := Tryz.func170.trans (congrArg some (by kernel_rfl))
  t46 := Tryz.underlying323
  a46 := Tryz.isAgg323
  z46 := Tryz.sizeOf323
  v46 := Tryz.zeroValue323
  t51 := Tryz.underlying319
  a51 := Tryz.isAgg319
  z51 := Tryz.sizeOf319
  v51 := Tryz.zeroValue319
  t53 := Tryz.underlying43
  a53 := Tryz.isAgg43
  z53 := Tryz.sizeOf43
  v53 := Tryz.zeroValue43
  t146 := Tryz.underlying487
  a146 := Tryz.isAgg487
  z146 := Tryz.sizeOf487
  v146 := Tryz.zeroValue487
  t148 := Tryz.underlying276
  a148 := Tryz.isAgg276
  z148 := Tryz.sizeOf276
  v148 := Tryz.zeroValue276 }
open Go.RowKit Go.Lib in
/-- math/bits.Mul: "Mul returns the full-width product of x and y": on a machine of 64 bits: Mul64's. (LAID: no walk: one application.) -/
theorem Tryz.bits_Mul (x y : Nat) (hx : x < 18446744073709551616) (hy : y < 18446744073709551616) (w : World) :
    Calls Tryz.prog 389 #[.int .u64 x, .int .u64 y] w fun e w' => e = .returned (.tuple #[.int .u64 ((x * y / 18446744073709551616 : Nat) : Int), .int .u64 ((x * y % 18446744073709551616 : Nat) : Int)]) ∧ w' = w := Any.bits_Mul Tryz.lays212 x y hx hy w
def Tryz.lays108_ren : Go.Shelf.Ren := ⟨fun | 108 => 174 | n => n, fun | 28 => 37 | 3 => 3 | 0 => 0 | 4 => 4 | n => n, fun | n => n⟩
theorem Tryz.lays108 : Go.Proofs.Lays.n108 Tryz.prog Tryz.lays108_ren := {
  mixed := by kernel_rfl
  f108 := Tryz.func174.trans (congrArg some (by kernel_rfl))
  t0 := Tryz.underlying0
  a0 := Tryz.isAgg0
  z0 := Tryz.sizeOf0
  v0 := Tryz.zeroValue0
  t3 := Tryz.underlying3
  a3 := Tryz.isAgg3
  z3 := Tryz.sizeOf3
  v3 := Tryz.zeroValue3
  t4 := Tryz.underlying4
  a4 := Tryz.isAgg4
  z4 := Tryz.sizeOf4
  v4 := Tryz.zeroValue4
  t28 := Tryz.underlying37
  a28 := Tryz.isAgg37
  z28 := Tryz.sizeOf37
  v28 := Tryz.zeroValue37 }
open Go.Lib in
/-- slices.Index at []int: "Index returns the index of the first occurrence of v in s, or -1 if not present.": IT RETURNS 'Lib.idxOf (the elements) v'; the world is as it was. 'zs': what the cells behind the slice's address hold (its spare capacity too, if you have it); 'zs.take n': its elements. (LAID: no walk: one application.) -/
theorem Tryz.slices_Index_int (b off n c : Nat) (zs : List Int) (x : Int) (w : World) (hz : n ≤ zs.length) (hbig : n ≤ 9223372036854775807) (hc : ∀ j, j < zs.length → w.cell? ⟨b, off + j, none⟩ = some (.int .i64 (zs.getD j 0))) :
    Calls Tryz.prog 174 #[.slice (some ⟨b, off, none⟩) n c, .int .i64 x] w fun e w' => e = .returned (.int .i64 (Lib.idxOf (zs.take n) x)) ∧ w' = w := Any.slices_Index_int Tryz.lays108 b off n c zs x w hz hbig hc
open Go.Lib in
/-- The same at a slice of length 0, a nil one too: no cell is known, none is asked for. (LAID: no walk: one application.) -/
theorem Tryz.slices_Index_int_empty (a : Option Addr) (c : Nat) (x : Int) (w : World) :
    Calls Tryz.prog 174 #[.slice a 0 c, .int .i64 x] w fun e w' => e = .returned (.int .i64 (Lib.idxOf [] x)) ∧ w' = w := Any.slices_Index_int_empty Tryz.lays108 a c x w
def Tryz.lays107_ren : Go.Shelf.Ren := ⟨fun | 107 => 86 | 108 => 174 | n => n, fun | 28 => 37 | 3 => 3 | 4 => 4 | 0 => 0 | n => n, fun | n => n⟩
theorem Tryz.lays107 : Go.Proofs.Lays.n107 Tryz.prog Tryz.lays107_ren := {
  mixed := by kernel_rfl
  f107 := Tryz.func86.trans (congrArg some (by kernel_rfl))
  f108 := Tryz.func174.trans (congrArg some (by kernel_rfl))
  t0 := Tryz.underlying0
  a0 := Tryz.isAgg0
  z0 := Tryz.sizeOf0
  v0 := Tryz.zeroValue0
  t3 := Tryz.underlying3
  a3 := Tryz.isAgg3
  z3 := Tryz.sizeOf3
  v3 := Tryz.zeroValue3
  t4 := Tryz.underlying4
  a4 := Tryz.isAgg4
  z4 := Tryz.sizeOf4
  v4 := Tryz.zeroValue4
  t28 := Tryz.underlying37
  a28 := Tryz.isAgg37
  z28 := Tryz.sizeOf37
  v28 := Tryz.zeroValue37 }
open Go.Lib in
/-- slices.Contains at []int: "Contains reports whether v is present in s.": IT RETURNS 'elements.contains v'; the world is as it was. ITS CALLEE slices.Index IS MET BY ITS OWN CONTRACT OFF THE SHELF (lay that first): no loop is walked here. (LAID: no walk: one application.) -/
theorem Tryz.slices_Contains_int (b off n c : Nat) (zs : List Int) (x : Int) (w : World) (hz : n ≤ zs.length) (hbig : n ≤ 9223372036854775807) (hc : ∀ j, j < zs.length → w.cell? ⟨b, off + j, none⟩ = some (.int .i64 (zs.getD j 0))) :
    Calls Tryz.prog 86 #[.slice (some ⟨b, off, none⟩) n c, .int .i64 x] w fun e w' => e = .returned (.bool ((zs.take n).contains x)) ∧ w' = w := Any.slices_Contains_int Tryz.lays107 b off n c zs x w hz hbig hc
open Go.Lib in
/-- The same at a slice of length 0, a nil one too. (LAID: no walk: one application.) -/
theorem Tryz.slices_Contains_int_empty (a : Option Addr) (c : Nat) (x : Int) (w : World) :
    Calls Tryz.prog 86 #[.slice a 0 c, .int .i64 x] w fun e w' => e = .returned (.bool false) ∧ w' = w := Any.slices_Contains_int_empty Tryz.lays107 a c x w
def Tryz.laysNm215_ren : Go.Shelf.Ren := ⟨fun | 15 => 281 | n => n, fun | 22 => 37 | 3 => 3 | 4 => 4 | n => n, fun | n => n⟩
theorem Tryz.laysNm215 : Go.Proofs.Lays2.n15 Tryz.prog Tryz.laysNm215_ren := {
  mixed := by kernel_rfl
  f15 := Tryz.func281.trans (congrArg some (by kernel_rfl))
  t3 := Tryz.underlying3
  a3 := Tryz.isAgg3
  z3 := Tryz.sizeOf3
  v3 := Tryz.zeroValue3
  t4 := Tryz.underlying4
  a4 := Tryz.isAgg4
  z4 := Tryz.sizeOf4
  v4 := Tryz.zeroValue4
  t22 := Tryz.underlying37
  a22 := Tryz.isAgg37
  z22 := Tryz.sizeOf37
  v22 := Tryz.zeroValue37
  i3 := by kernel_rfl }
open Go.RowKit Go.Lib in
/-- slices.Clone at []int: "Clone returns a copy of the slice. The elements are copied using assignment, so this is a shallow clone. The result may have additional unused capacity. The result preserves the nilness of s.": OF A SLICE THAT IS NOT nil IT RETURNS A SLICE THAT IS NOT nil, OF THE SAME ELEMENTS, IN MEMORY OF THE CALL's OWN: in the how-to's words (6f): 'w'.ownsRow B e 1 v' n cells': v' begins at the head of a row among the blocks from B on (B: the heap's size at the call), not frozen, whose first cells are the elements · 'Below B w w'': below B all is as it was. The capacity is whatever the run-time gives. 'zs': what the cells behind the slice's address hold; 'zs.take n': its elements. (LAID: no walk: one application.) -/
theorem Tryz.slices_Clone_int (b off n c : Nat) (zs : List Int) (w : World) (hz : n ≤ zs.length) (hbig : n * 8 ≤ 140737488355328) (hc : ∀ j, j < zs.length → w.cell? ⟨b, off + j, none⟩ = some (.int .i64 (zs.getD j 0))) :
    Calls Tryz.prog 281 #[.slice (some ⟨b, off, none⟩) n c] w fun e w' => ∃ v', e = .returned v' ∧ w'.ownsRow w.heap.size 3 1 v' n ((zs.take n).map (Value.int .i64)) ∧ v' ≠ .slice none 0 0 ∧ Below w.heap.size w w' := Any.slices_Clone_int Tryz.laysNm215 b off n c zs w hz hbig hc
open Go.RowKit Go.Lib in
/-- The same at nil: nil comes back; the world is as it was. (LAID: no walk: one application.) -/
theorem Tryz.slices_Clone_int_nil (n c : Nat) (w : World) :
    Calls Tryz.prog 281 #[.slice none n c] w fun e w' => e = .returned (.slice none 0 0) ∧ w' = w := Any.slices_Clone_int_nil Tryz.laysNm215 n c w
open Go.RowKit Go.Lib in
/-- The same at a slice of length 0 that is not nil, WHATEVER ITS ADDRESS (no cell is asked for): a slice that is not nil and owns nothing comes back. (LAID: no walk: one application.) -/
theorem Tryz.slices_Clone_int_zero (a : Addr) (c : Nat) (w : World) :
    Calls Tryz.prog 281 #[.slice (some a) 0 c] w fun e w' => ∃ v', e = .returned v' ∧ w'.ownsRow w.heap.size 3 1 v' 0 [] ∧ v' ≠ .slice none 0 0 ∧ Below w.heap.size w w' := Any.slices_Clone_int_zero Tryz.laysNm215 a c w
def Tryz.laysNm237_ren : Go.Shelf.Ren := ⟨fun | 37 => 345 | n => n, fun | 3 => 3 | 4 => 4 | n => n, fun | n => n⟩
theorem Tryz.laysNm237 : Go.Proofs.Lays2.n37 Tryz.prog Tryz.laysNm237_ren := {
  mixed := by kernel_rfl
  f37 := Tryz.func345.trans (congrArg some (by kernel_rfl))
  t3 := Tryz.underlying3
  a3 := Tryz.isAgg3
  z3 := Tryz.sizeOf3
  v3 := Tryz.zeroValue3
  t4 := Tryz.underlying4
  a4 := Tryz.isAgg4
  z4 := Tryz.sizeOf4
  v4 := Tryz.zeroValue4 }
open Go.RowKit Go.Lib in
/-- cmp.isNaN[int]: 'x != x': false. (LAID: no walk: one application.) -/
theorem Tryz.cmp_isNaN_int2 (x : Int) (w : World) :
    Calls Tryz.prog 345 #[.int .i64 x] w fun e w' => e = .returned (.bool false) ∧ w' = w := Any.cmp_isNaN_int2 Tryz.laysNm237 x w
def Tryz.laysNm231_ren : Go.Shelf.Ren := ⟨fun | 31 => 336 | 37 => 345 | n => n, fun | 3 => 3 | 4 => 4 | n => n, fun | n => n⟩
theorem Tryz.laysNm231 : Go.Proofs.Lays2.n31 Tryz.prog Tryz.laysNm231_ren := {
  mixed := by kernel_rfl
  f31 := Tryz.func336.trans (congrArg some (by kernel_rfl))
  f37 := Tryz.func345.trans (congrArg some (by kernel_rfl))
  t3 := Tryz.underlying3
  a3 := Tryz.isAgg3
  z3 := Tryz.sizeOf3
  v3 := Tryz.zeroValue3
  t4 := Tryz.underlying4
  a4 := Tryz.isAgg4
  z4 := Tryz.sizeOf4
  v4 := Tryz.zeroValue4 }
open Go.RowKit Go.Lib in
/-- cmp.Less[int]: "Less reports whether x is less than y.": 'x < y'; the world is as it was. (LAID: no walk: one application.) -/
theorem Tryz.cmp_Less_int2 (x y : Int) (w : World) :
    Calls Tryz.prog 336 #[.int .i64 x, .int .i64 y] w fun e w' => e = .returned (.bool (decide (x < y))) ∧ w' = w := Any.cmp_Less_int2 Tryz.laysNm231 x y w
open Go.RowKit Go.Sort in
/-- .. and plain. (LAID: no walk: one application.) -/
theorem Tryz.slices_Sort_string_none (p : Option Addr) (cap : Nat) (w : World) :
    Calls Tryz.prog 209 #[.slice p 0 cap] w fun e w' => e = .returned (.tuple #[]) ∧ w' = w := Any.slices_Sort_string_none Tryz.lays190 p cap w
open Go.RowKit Go.Sort in
/-- .. and plain. (LAID: no walk: one application.) -/
theorem Tryz.slices_Sort_int_none (p : Option Addr) (cap : Nat) (w : World) :
    Calls Tryz.prog 151 #[.slice p 0 cap] w fun e w' => e = .returned (.tuple #[]) ∧ w' = w := Any.slices_Sort_int_none Tryz.lays189 p cap w
def Tryz.lays115_ren : Go.Shelf.Ren := ⟨fun | 115 => 222 | n => n, fun | 37 => 38 | 4 => 4 | 9 => 9 | 5 => 5 | n => n, fun | n => n⟩
theorem Tryz.lays115 : Go.Proofs.Lays.n115 Tryz.prog Tryz.lays115_ren := {
  mixed := by kernel_rfl
  f115 := Tryz.func222.trans (congrArg some (by kernel_rfl))
  t4 := Tryz.underlying4
  a4 := Tryz.isAgg4
  z4 := Tryz.sizeOf4
  v4 := Tryz.zeroValue4
  t9 := Tryz.underlying9
  a9 := Tryz.isAgg9
  z9 := Tryz.sizeOf9
  v9 := Tryz.zeroValue9
  t37 := Tryz.underlying38
  a37 := Tryz.isAgg38
  z37 := Tryz.sizeOf38
  v37 := Tryz.zeroValue38 }
open Go.Proofs Go.RowKit Go.Lib in
/-- bytes.Equal, each argument with what 'string(..)' of it gives. (LAID: no walk: one application.) -/
theorem Tryz.bytes_Equal_strs (v1 v2 : Value) (t1 t2 : ByteArray) (w : World) (h1 : (convert 38 9 v1).run Tryz.prog w = .ok (.string t1) w) (h2 : (convert 38 9 v2).run Tryz.prog w = .ok (.string t2) w) :
    Calls Tryz.prog 222 #[v1, v2] w fun e w' => e = .returned (.bool (t1.toList == t2.toList)) ∧ w' = w := Any.bytes_Equal_strs Tryz.lays115 v1 v2 t1 t2 w h1 h2
def Tryz.laysSlK4_ren : Go.Shelf.Ren := ⟨fun | 4 => 217 | n => n, fun | 22 => 38 | 4 => 4 | 5 => 5 | n => n, fun | n => n⟩
theorem Tryz.laysSlK4 : Go.Proofs.SlLaysK.n4 Tryz.prog Tryz.laysSlK4_ren := {
  mixed := by kernel_rfl
  f4 := Tryz.func217.trans (congrArg some (by kernel_rfl))
  t4 := Tryz.underlying4
  a4 := Tryz.isAgg4
  z4 := Tryz.sizeOf4
  v4 := Tryz.zeroValue4
  t22 := Tryz.underlying38
  a22 := Tryz.isAgg38
  z22 := Tryz.sizeOf38
  v22 := Tryz.zeroValue38
  t5 := Tryz.underlying5
  i5 := by kernel_rfl }
open Go.RowKit Go.Lib in
/-- bytes.Clone: "Clone returns a copy of b[:len(b)]. The result may have additional unused capacity.": OF A SLICE THAT IS NOT nil IT RETURNS A SLICE THAT IS NOT nil, OF THE SAME BYTES, IN MEMORY OF THE CALL's OWN: in the how-to's words (6f): 'w'.ownsRow B e 1 v' n cells' · 'Below B w w'', B the heap's size at the call. b AT WHATEVER ADDRESS, its cells as 'open_ints' hands them ('a.add i'; the numbers 'xs'). No byte: no cell is asked for. (LAID: no walk: one application.) -/
theorem Tryz.bytes_Clone_at (a : Addr) (n c : Nat) (xs : List Int) (w : World) (hx : xs.length = n) (hbig : n ≤ 140737488355328) (hc : ∀ i, i < n → w.cell? (a.add i) = some (.int .u8 (xs.getD i 0))) :
    Calls Tryz.prog 217 #[.slice (some a) n c] w fun e w' => ∃ v', e = .returned v' ∧ w'.ownsRow w.heap.size 5 1 v' n (xs.map (Value.int .u8)) ∧ v' ≠ .slice none 0 0 ∧ Below w.heap.size w w' := Any.bytes_Clone_at Tryz.laysSlK4 a n c xs w hx hbig hc
open Go.RowKit Go.Lib in
/-- "Clone(nil) returns nil.": the world is as it was. (LAID: no walk: one application.) -/
theorem Tryz.bytes_Clone_nil (n c : Nat) (w : World) :
    Calls Tryz.prog 217 #[.slice none n c] w fun e w' => e = .returned (.slice none 0 0) ∧ w' = w := Any.bytes_Clone_nil Tryz.laysSlK4 n c w
def Tryz.laysnb115_ren : Go.Shelf.Ren := ⟨fun | 115 => 222 | n => n, fun | 37 => 38 | 4 => 4 | 9 => 9 | 5 => 5 | n => n, fun | n => n⟩
theorem Tryz.laysnb115 : Go.Proofs.Lays.nb115 Tryz.prog Tryz.laysnb115_ren := {
  mixed := by kernel_rfl
  f115 := Tryz.func222.trans (congrArg some (by kernel_rfl))
  t4 := Tryz.underlying4
  a4 := Tryz.isAgg4
  z4 := Tryz.sizeOf4
  v4 := Tryz.zeroValue4
  t9 := Tryz.underlying9
  a9 := Tryz.isAgg9
  z9 := Tryz.sizeOf9
  v9 := Tryz.zeroValue9
  t37 := Tryz.underlying38
  a37 := Tryz.isAgg38
  z37 := Tryz.sizeOf38
  v37 := Tryz.zeroValue38
  t5 := Tryz.underlying5
  a5 := Tryz.isAgg5
  z5 := Tryz.sizeOf5
  v5 := Tryz.zeroValue5 }
/-- bytes.Equal: WHOLE. (LAID: no walk: one application.) -/
theorem Tryz.bytes_Equal_all (p1 p2 : Option Addr) (n c m d : Nat) (xs ys : List Int) (w : World) (hx : xs.length = n) (hy : ys.length = m) (h1 : Lib.BytesIn w p1 n xs) (h2 : Lib.BytesIn w p2 m ys) :
    Calls Tryz.prog 222 #[.slice p1 n c, .slice p2 m d] w fun e w' => e = .returned (.bool (Lib.bytesOf xs == Lib.bytesOf ys)) ∧ w' = w := Any.bytes_Equal_all Tryz.laysnb115 p1 p2 n c m d xs ys w hx hy h1 h2
/-- bytes.Equal: "Equal reports whether a and b are the same length and contain the same bytes. A nil argument is equivalent to an empty slice.": IT RETURNS 'the bytes of the one == the bytes of the other'; the world is as it was. THE TWO ARGUMENTS COME AS WHATEVER VALUES, each with the one fact that the walk wants of it: what 'string(..)' of it gives: for a slice whose cells you know: 'run_convert_bytes_arg' (Derived/Laws/BytesArg.lean) hands that fact; for a nil one: 'run_convert_bytes_nil' (with xs := []). (LAID: no walk: one application.) -/
theorem Tryz.bytes_Equal (v1 v2 : Value) (xs ys : List Int) (w : World) (h1 : (convert 38 9 v1).run Tryz.prog w = .ok (.string (strOfNums xs)) w) (h2 : (convert 38 9 v2).run Tryz.prog w = .ok (.string (strOfNums ys)) w) :
    Calls Tryz.prog 222 #[v1, v2] w fun e w' => e = .returned (.bool (Lib.bytesOf xs == Lib.bytesOf ys)) ∧ w' = w := Any.bytes_Equal Tryz.lays115 v1 v2 xs ys w h1 h2
end Go.Proofs
