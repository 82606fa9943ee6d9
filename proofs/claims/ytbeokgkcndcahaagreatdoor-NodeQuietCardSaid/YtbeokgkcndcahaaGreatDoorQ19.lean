/-
  journal: Open.
  digest.Text; what a store has not.
  blobs: Images, scrub, Open.
  blobs.Open on an empty disk.
  pieces: Open on an empty disk; Blobs of a table that takes nothing in.
-/
import Derived.Test.YtbeokgkcndcahaaGreatDoorQ18
import Derived.KernelRfl
set_option linter.all false
namespace Go.SX
open Go.Proofs
attribute [local irreducible] SX SXo
set_option maxRecDepth 20000
set_option maxHeartbeats 4000000
theorem journalOpen_ok (K : Hp) (bd : Nat) (name : ByteArray) (room : Int) (bm : Nat) (st : Sl) (sts : List Nat) (hg1 : goodS name = true) (hg2 : goodS (name ++ dotNew) = true) (hroom : 201000 ≤ room) (hs : sts.length ≤ 100) :
    TR Tryz.prog K 59 [evPtr bd, .o (.string name)] [.blk bd 62 (diskCh room bm st ⟨none, 0, 0⟩), .map bm ekStr evPO [], .vec st 58 1 encMp sts]
    fun v r => ∃ jb bm' st' wr' f a, a.n = 32 ∧ v = .t [evPtr jb, .o (.slice none 0 0), .o (.int .i64 0)] ∧ r = [.blk jb 239 (jCh bd name 1 0 0 false), .blk bd 62 (diskCh room bm' st' wr'), .map bm' ekStr evPO (mput (mdel (mput [] (name ++ dotNew) (some f)) (name ++ dotNew)) name (some f)),
      .vec st' 58 1 encMp [bm'], .vec wr' 370 3 encLate [], .blk f 326 (fileCh a a)] := by
  have hsz : name.size ≤ 80 := by
    simp only [goodS, Bool.and_eq_true, decide_eq_true_eq] at hg1; exact hg1.2.1
  refine tr_intro Tryz.func59 rfl rfl rfl fun cx hro hk hret => ?_
  refine sx_nilVec encLate 370 3 ?_
  refine sx_seq ?_
  refine sx_region ?_
  refine sxo_pure rfl rfl rfl trivial ?_
  refine sxo_pure rfl rfl rfl trivial ?_
  refine sxo_pure rfl rfl rfl trivial ?_
  refine sxo_end ?_
  refine sx_seq ?_
  refine sx_block ?_
  refine sx_seq ?_
  refine sx_region ?_
  refine sxo_pure rfl rfl rfl trivial ?_
  refine sxo_eqPtr rfl rfl rfl rfl rfl rfl rfl rfl ?_
  refine sxo_pure rfl rfl rfl trivial ?_
  refine sxo_pure rfl rfl rfl trivial ?_
  refine sxo_call0 rfl rfl rfl rfl (by exact .nil) (fun Kc hK hB => may_ok Kc name hg1) rfl rfl ?_ (hH := by rintro v m ⟨rfl, rfl⟩; (exact hh_nil))
  rintro v m ⟨rfl, rfl⟩
  simp only [List.cons_append, List.nil_append, List.append_nil, resV]
  refine sxo_pure rfl rfl rfl trivial ?_
  refine sxo_pure rfl rfl rfl trivial ?_
  refine sxo_pure rfl rfl rfl trivial ?_
  refine sxo_pure rfl rfl rfl trivial ?_
  refine sxo_pure rfl rfl rfl (by show name.size + 4 ≤ 9223372036854775807; omega) ?_
  skip
  refine sxo_call0 rfl rfl rfl rfl (by exact .nil) (fun Kc hK hB => may_ok Kc (name ++ dotNew) hg2) rfl rfl ?_ (hH := by rintro v m ⟨rfl, rfl⟩; (exact hh_nil))
  rintro v m ⟨rfl, rfl⟩
  simp only [List.cons_append, List.nil_append, List.append_nil, resV]
  refine sxo_pure rfl rfl rfl trivial ?_
  refine sxo_pure rfl rfl rfl trivial ?_
  refine sxo_pure rfl rfl rfl trivial ?_
  refine sxo_end ?_
  refine sx_condF rfl ?_
  refine sx_seq ?_
  refine sx_region ?_
  refine sxo_pure rfl rfl rfl trivial ?_
  refine sxo_call0 rfl rfl rfl rfl (by (apply Take.cons; focus exact .tail .head); exact .nil) (fun Kc hK hB => Off_ok Kc bd room bm st ⟨none, 0, 0⟩) rfl rfl ?_ (hH := by rintro v m ⟨rfl, rfl⟩; (exact hh_nil))
  rintro v m ⟨rfl, rfl⟩
  simp only [List.cons_append, List.nil_append, List.append_nil, resV]
  refine sxo_pure rfl rfl rfl trivial ?_
  refine sxo_end ?_
  refine sx_condF rfl ?_
  refine sx_skip ?_
  refine sx_inBlock ?_
  refine sx_seq ?_
  refine sx_region ?_
  refine sxo_pure rfl rfl rfl trivial ?_
  refine sxo_pure rfl rfl rfl trivial ?_
  refine sxo_call0 rfl rfl rfl rfl (by (apply Take.cons; focus exact .head); (apply Take.cons; focus exact .tail .head); exact .nil) (fun Kc hK hB => SizeNo_ok Kc bd room bm st ⟨none, 0, 0⟩ [] name rfl) rfl rfl ?_ (hH := by rintro v m ⟨rfl, rfl⟩; (exact hh_nil))
  rintro v m ⟨rfl, rfl⟩
  simp only [List.cons_append, List.nil_append, List.append_nil, resV]
  refine sxo_pure rfl rfl rfl trivial ?_
  refine sxo_pure rfl rfl rfl trivial ?_
  refine sxo_pure rfl rfl rfl trivial ?_
  refine sxo_pure rfl rfl rfl trivial ?_
  refine sxo_pure rfl rfl rfl trivial ?_
  refine sxo_end ?_
  refine sx_seq ?_
  refine sx_region ?_
  refine sxo_pure rfl rfl rfl trivial ?_
  refine sxo_pure rfl rfl rfl trivial ?_
  refine sxo_pure rfl rfl rfl trivial ?_
  refine sxo_call0 rfl rfl rfl rfl (by (apply Take.cons; focus exact .head); (apply Take.cons; focus exact .head); exact .nil) (fun Kc hK hB => ReadNo_ok Kc bd room bm st ⟨none, 0, 0⟩ [] name _ _ rfl) rfl rfl ?_ (hH := by rintro v m ⟨rfl, rfl⟩; (exact hh_nil))
  rintro v m ⟨rfl, rfl⟩
  simp only [List.cons_append, List.nil_append, List.append_nil, resV]
  refine sxo_pure rfl rfl rfl trivial ?_
  refine sxo_pure rfl rfl rfl trivial ?_
  refine sxo_pure rfl rfl rfl trivial ?_
  refine sxo_pure rfl rfl rfl trivial ?_
  refine sxo_pure rfl rfl rfl trivial ?_
  refine sxo_end ?_
  refine sx_seq ?_
  refine sx_region ?_
  refine sxo_alloc rfl rfl rfl rfl rfl rfl (fun _ => ?_)
  refine sxo_end ?_
  refine sx_seq ?_
  refine sx_seq ?_
  refine sx_region ?_
  refine sxo_pure rfl rfl rfl trivial ?_
  refine sxo_call0 rfl rfl rfl rfl (by exact .nil) (fun Kc hK hB => found_ok Kc) rfl rfl ?_ (hH := by rintro v m ⟨rfl, rfl⟩; (exact hh_nil))
  rintro v m ⟨rfl, rfl⟩
  simp only [List.cons_append, List.nil_append, List.append_nil, resV]
  skip
  refine sxo_call0 rfl rfl rfl rfl (by exact .nil) (fun Kc hK hB => records_ok Kc) rfl rfl ?_ (hH := by rintro v m ⟨bx, rfl, rfl⟩; (exact hh_nil))
  rintro v m ⟨bx, rfl, rfl⟩
  simp only [List.cons_append, List.nil_append, List.append_nil, resV]
  refine sxo_end ?_
  refine sx_block ?_
  rename_i b11
  refine sx_rangeFunc (fun l => [.o (.func (.yield l) #[] #[]), evPtr bx]) (fun l lp _ m => m = [.blk bx 38 [.c (.slice none 0 0)], lpE l lp .ready none]) hro rfl (fun l => by simp [SV1.val]) (.cons (by exact .head) .nil)
    (fun Kc l lp hK _ hlp => TR.perm (.swap _ _ _) (records1_ok Kc bx _ [lpE l lp .ready none])) (fun b l lp v m hlp hq => ?_)
  subst hq
  refine ⟨.ready, none, [.blk bx 38 [.c (.slice none 0 0)]], .tail .head, by decide, ?_⟩
  simp only [Option.map_none, Option.toList_none, List.nil_append, List.cons_append]
  refine sx_inBlock ?_
  refine sx_seq ?_
  refine sx_region ?_
  refine sxo_pure rfl rfl rfl trivial ?_
  refine sxo_pure rfl rfl rfl trivial ?_
  refine sxo_build rfl rfl rfl rfl rfl rfl rfl rfl rfl ?_
  refine sxo_box rfl rfl rfl rfl rfl rfl (fun _ => ?_)
  refine sxo_pure rfl rfl rfl trivial ?_
  refine sxo_end ?_
  refine sx_seq ?_
  refine sx_seq ?_
  refine sx_region ?_
  refine sxo_pure rfl rfl rfl trivial ?_
  refine sxo_load rfl rfl rfl (by exact .tail (.tail (.tail .head))) rfl rfl rfl rfl ?_
  rename_i jb
  refine sxo_call0 rfl rfl rfl rfl (by (apply Take.cons; focus exact .head); (apply Take.cons; focus exact .tail (.tail (.tail .head))); (apply Take.cons; focus exact .tail (.tail (.tail .head))); (apply Take.cons; focus exact .tail (.tail (.tail (.tail .head)))); (apply Take.cons; focus exact .tail (.tail (.tail .head))); exact .nil) (fun Kc hK hB => put_ok Kc jb bd name 0 0 0 false room bm st ⟨none, 0, 0⟩ sts [] [] hg1 hg2 hroom hs (by simp) rfl (by simp)) rfl rfl ?_ (hH := by rintro v m ⟨bm', st', wr', f, a, ha, rfl, rfl⟩; (exact hh_nil))
  rintro v m ⟨bm', st', wr', f, a, ha, rfl, rfl⟩
  simp only [List.cons_append, List.nil_append, List.append_nil, resV]
  refine sxo_pure rfl rfl rfl trivial ?_
  refine sxo_end ?_
  refine sx_seq ?_
  refine sx_region ?_
  refine sxo_pure rfl rfl rfl trivial ?_
  refine sxo_pure rfl rfl rfl trivial ?_
  refine sxo_end ?_
  refine sx_condF rfl ?_
  refine sx_skip ?_
  refine sx_seq ?_
  refine sx_drawN 15 (by kernel_rfl) [0, 1, 2, 3, 4] [] (by kernel_rfl) ?_
  refine sxo_pure rfl rfl rfl trivial ?_
  refine sxo_load rfl rfl rfl (by exact .tail (.tail (.tail (.tail (.tail (.tail (.tail (.tail .head)))))))) rfl rfl rfl rfl ?_
  refine sxo_pure rfl rfl rfl trivial ?_
  refine sxo_pure rfl rfl rfl trivial ?_
  refine sxo_pure rfl rfl rfl trivial ?_
  refine sxo_end ?_
  refine sx_less (M := [dfE b, .blk jb 239 (jCh bd name 1 0 0 false), .blk bd 62 (diskCh room bm' st' wr'), .map bm' ekStr evPO (mput (mdel (mput [] (name ++ dotNew) (some f)) (name ++ dotNew)) name (some f)), .vec st' 58 1 encMp [bm'], .vec wr' 370 3 encLate [], .blk f 326 (fileCh a a)]) (fun _ _ h => h) (by (apply Take.cons; focus exact .tail (.tail (.tail (.tail (.tail (.tail (.tail .head))))))); (apply Take.cons; focus exact .head); (apply Take.cons; focus exact .head); (apply Take.cons; focus exact .head); (apply Take.cons; focus exact .head); (apply Take.cons; focus exact .head); (apply Take.cons; focus exact .head); exact .nil) ?_
  exact sx_ret_df hret hro hk .head (.tmp rfl (.tmp rfl (.tmp rfl .nil))) ⟨jb, bm', st', wr', f, a, ha, rfl, rfl⟩
end Go.SX

namespace Go.SX
open Go.Proofs
attribute [local irreducible] SX SXo
set_option maxRecDepth 20000
set_option maxHeartbeats 4000000
theorem hi4 (c : UInt8) : 0 ≤ (c.toNat : Int).fdiv (2 ^ min (Int.toNat 4) IntKind.u8.bits) ∧ (c.toNat : Int).fdiv (2 ^ min (Int.toNat 4) IntKind.u8.bits) < 16 := by
  have e : (2 : Int) ^ min (Int.toNat 4) IntKind.u8.bits = 16 := rfl
  have := c.toNat_lt
  rw [e, Int.fdiv_eq_ediv_of_nonneg _ (by omega)]
  omega
theorem lo4 (c : UInt8) : 0 ≤ IntKind.u8.wrap ((BitVec.ofInt IntKind.u8.bits c.toNat &&& BitVec.ofInt IntKind.u8.bits 15).toNat : Int) ∧ IntKind.u8.wrap ((BitVec.ofInt IntKind.u8.bits c.toNat &&& BitVec.ofInt IntKind.u8.bits 15).toNat : Int) < 16 := by
  have e : ∀ m : Int, IntKind.u8.wrap m = m % 256 := fun m => by simp [IntKind.wrap, IntKind.signed, IntKind.bits]
  have h : (BitVec.ofInt IntKind.u8.bits c.toNat &&& BitVec.ofInt IntKind.u8.bits 15).toNat ≤ 15 := by
    rw [BitVec.toNat_and]; exact Nat.and_le_right
  rw [e]; omega
theorem Text_ok (K : Hp) (D : Dig) : TR Tryz.prog K 215 [.g [.d D]] [] fun v r => ∃ s : ByteArray, s.size = 64 ∧ v = .s (.o (.string s)) ∧ r = [] := by
  refine tr_intro Tryz.func215 rfl rfl rfl fun cx hro hk hret => ?_
  refine sx_seq ?_
  refine sx_region ?_
  refine sxo_box rfl rfl rfl rfl rfl rfl (fun _ => ?_)
  refine sxo_pure rfl rfl rfl trivial ?_
  refine sxo_end ?_
  refine sx_seq ?_
  refine sx_region ?_
  refine sxo_makeSlice encB 0 rfl rfl rfl rfl rfl rfl rfl rfl rfl rfl rfl rfl rfl (by decide) (fun b => ?_)
  refine sxo_pure rfl rfl rfl trivial ?_
  refine sxo_end ?_
  refine sx_seq ?_
  refine sx_seq ?_
  refine sx_region ?_
  refine sxo_load rfl rfl rfl (by exact .tail .head) rfl rfl rfl rfl ?_
  refine sxo_pure rfl rfl rfl trivial ?_
  refine sxo_end ?_
  refine sx_block ?_
  refine sx_less (by refine .cons rfl ?_; refine .cons rfl ?_; refine .cons rfl ?_; exact .nil _) (by (apply Take.cons; focus exact .head); exact .nil) (sx_loopI (γ := Nat × Sl × List UInt8) (fun x => x.1 ≤ 32 ∧ x.2.2.length = 2 * x.1) (fun x => 32 - x.1) (fun x => [(7, .s (.g [.d D])), (8, .s (.o (.int .i64 x.1))), (3, .s (.o (.slice x.2.1.p x.2.1.n x.2.1.c)))]) (fun x => [.vec ⟨x.2.1.p, x.2.1.n, x.2.1.c⟩ 5 1 encB x.2.2]) ((0, ⟨some ⟨b, 0, none⟩, Int.toNat 0, Int.toNat 64⟩, [])) (by simp) ?_)
  rintro ⟨j, ⟨p1, n1, c1⟩, l⟩ ⟨hj, hl⟩ ih
  simp only at hj hl
  refine sx_seq ?_
  refine sx_region ?_
  refine sxo_pure rfl rfl rfl trivial ?_
  refine sxo_end ?_
  refine sx_seq ?_
  refine sx_cond rfl (fun h => ?_) (fun h => ?_)
  · simp at h
    refine sx_skip ?_
    refine sx_seq ?_
    refine sx_block ?_
    refine sx_seq ?_
    refine sx_region ?_
    refine sxo_indexDig rfl rfl rfl rfl rfl rfl rfl rfl rfl (by simp only; omega) rfl (fun c hc => ?_)
    refine sxo_pure rfl rfl rfl trivial ?_
    refine sxo_end ?_
    refine sx_drawN 5 (by kernel_rfl) [0, 1, 2, 3, 4, 5, 6, 7, 8, 9] [] (by kernel_rfl) ?_
    refine sxo_pure rfl rfl rfl trivial ?_
    refine sxo_pure rfl rfl rfl trivial ?_
    refine sxo_pure rfl rfl rfl (by omega) ?_
    refine sxo_indexS rfl rfl rfl rfl rfl rfl (hi4 c) rfl (fun d1 hd1 => ?_)
    refine sxo_pure rfl rfl rfl trivial ?_
    refine sxo_pure rfl rfl rfl trivial ?_
    refine sxo_indexS rfl rfl rfl rfl rfl rfl (lo4 c) rfl (fun d2 hd2 => ?_)
    refine sxo_buildSlice rfl rfl rfl rfl rfl rfl rfl rfl rfl rfl rfl rfl rfl (fun _ => ?_)
    refine sxo_append (lx := [d1, d2]) rfl rfl rfl rfl rfl rfl rfl rfl rfl rfl (by exact .tail .head) (Reads.blk .head rfl rfl (fun _ _ => rfl)) (fun _ => rfl) rfl rfl rfl (by simp; omega) (fun p2 n2 c2 => ?_)
    refine sxo_pure rfl rfl rfl trivial ?_
    refine sxo_end ?_
    refine sx_inBlock ?_
    refine sx_region ?_
    refine sxo_pure rfl rfl rfl (by omega) ?_
    refine sxo_pure rfl rfl rfl trivial ?_
    refine sxo_end ?_
    refine sx_less (by refine .cons rfl ?_; refine .cons rfl ?_; refine .cons rfl ?_; exact .nil _) (by (apply Take.cons; focus exact .head); exact .nil) (ih ((j + 1, ⟨p2, n2, c2⟩, l ++ [d1, d2])) (⟨by simp only; omega, by simp; omega⟩) (by simp only; omega))
  · simp at h
    refine sx_exit rfl ?_
    refine sx_seq ?_
    refine sx_region ?_
    refine sxo_pure rfl rfl rfl trivial ?_
    refine sxo_b2s rfl rfl rfl rfl rfl rfl rfl rfl rfl rfl rfl (by exact Reads.own (by exact .head)) ?_
    refine sxo_pure rfl rfl rfl trivial ?_
    refine sxo_end ?_
    refine sx_retL hret hro hk (.tmp rfl .nil) ⟨⟨l.toArray⟩, (by show l.length = 64; omega), rfl, rfl⟩ (by exact .nil)
@[reducible] def storeCh (bd : Nat) (quota : Int) (bg : Nat) : List Ch := [.c (.pointer (some ⟨bd, 0, none⟩)), .c (.int .i64 quota), .c (.map (some bg)), .c (.bool false)]
theorem file_ok (K : Hp) (kind : ByteArray) (D : Dig) (hk2 : kind.size ≤ 10) : TR Tryz.prog K 116 [.o (.string kind), .g [.d D]] [] fun v r => ∃ s : ByteArray, s.size = 64 ∧ v = .s (.o (.string (kind ++ s))) ∧ r = [] := by
  refine tr_intro Tryz.func116 rfl rfl rfl fun cx hro hk hret => ?_
  refine sx_seq ?_
  refine sx_region ?_
  refine sxo_box rfl rfl rfl rfl rfl rfl (fun _ => ?_)
  refine sxo_pure rfl rfl rfl trivial ?_
  refine sxo_end ?_
  refine sx_seq ?_
  refine sx_region ?_
  refine sxo_pure rfl rfl rfl trivial ?_
  refine sxo_load rfl rfl rfl (by exact .head) rfl rfl rfl rfl ?_
  refine sxo_call0 rfl rfl rfl rfl (by exact .nil) (fun Kc hK hB => Text_ok Kc D) rfl rfl ?_ (hH := by rintro v m ⟨s, hs, rfl, rfl⟩; (exact hh_nil))
  rintro v m ⟨s, hs, rfl, rfl⟩
  simp only [List.cons_append, List.nil_append, List.append_nil, resV]
  refine sxo_pure rfl rfl rfl (by omega) ?_
  refine sxo_pure rfl rfl rfl trivial ?_
  refine sxo_end ?_
  refine sx_retL hret hro hk (.tmp rfl .nil) ⟨s, hs, rfl, rfl⟩ (by exact .nil)
section
variable (K : Hp) (bs bd bg : Nat) (quota room : Int) (bm : Nat) (st wr : Sl) (names : List (ByteArray × Option Nat))
theorem is_ok (name : ByteArray) (h : mget names name = none) : TR Tryz.prog K 134 [evPtr bs, .o (.string name)] [.blk bs 120 (storeCh bd quota bg), .blk bd 62 (diskCh room bm st wr), .map bm ekStr evPO names]
    fun v r => v = .s (.o (.bool false)) ∧ r = [.blk bs 120 (storeCh bd quota bg), .blk bd 62 (diskCh room bm st wr), .map bm ekStr evPO names] := by
  refine tr_intro Tryz.func134 rfl rfl rfl fun cx hro hk hret => ?_
  refine sx_seq ?_
  refine sx_region ?_
  refine sxo_pure rfl rfl rfl trivial ?_
  refine sxo_end ?_
  refine sx_seq ?_
  refine sx_region ?_
  refine sxo_pure rfl rfl rfl trivial ?_
  refine sxo_pure rfl rfl rfl trivial ?_
  refine sxo_pure rfl rfl rfl trivial ?_
  refine sxo_load rfl rfl rfl (by exact .head) rfl rfl rfl rfl ?_
  refine sxo_pure rfl rfl rfl trivial ?_
  refine sxo_call0 rfl rfl rfl rfl (by (apply Take.cons; focus exact .tail .head); (apply Take.cons; focus exact .tail .head); exact .nil) (fun Kc hK hB => SizeNo_ok Kc bd room bm st wr names name h) rfl rfl ?_ (hH := by rintro v m ⟨rfl, rfl⟩; (exact hh_nil))
  rintro v m ⟨rfl, rfl⟩
  simp only [List.cons_append, List.nil_append, List.append_nil, resV]
  refine sxo_pure rfl rfl rfl trivial ?_
  refine sxo_pure rfl rfl rfl trivial ?_
  refine sxo_pure rfl rfl rfl trivial ?_
  refine sxo_pure rfl rfl rfl trivial ?_
  refine sxo_pure rfl rfl rfl trivial ?_
  refine sxo_end ?_
  refine sx_seq ?_
  refine sx_region ?_
  refine sxo_pure rfl rfl rfl trivial ?_
  refine sxo_pure rfl rfl rfl trivial ?_
  refine sxo_pure rfl rfl rfl trivial ?_
  refine sxo_end ?_
  refine sx_retL hret hro hk (.tmp rfl .nil) ⟨rfl, rfl⟩ (by (apply Take.cons; focus exact .tail (.tail .head)); (apply Take.cons; focus exact .head); (apply Take.cons; focus exact .head); exact .nil)
@[reducible] def kB : ByteArray := ⟨#[98, 45]⟩
@[reducible] def kI : ByteArray := ⟨#[105, 45]⟩
theorem Has_ok (D : Dig) (h : ∀ s : ByteArray, mget names (kB ++ s) = none) : TR Tryz.prog K 77 [evPtr bs, .g [.d D]] [.blk bs 120 (storeCh bd quota bg), .blk bd 62 (diskCh room bm st wr), .map bm ekStr evPO names]
    fun v r => v = .s (.o (.bool false)) ∧ r = [.blk bs 120 (storeCh bd quota bg), .blk bd 62 (diskCh room bm st wr), .map bm ekStr evPO names] := by
  refine tr_intro Tryz.func77 rfl rfl rfl fun cx hro hk hret => ?_
  refine sx_seq ?_
  refine sx_region ?_
  refine sxo_box rfl rfl rfl rfl rfl rfl (fun _ => ?_)
  refine sxo_pure rfl rfl rfl trivial ?_
  refine sxo_end ?_
  refine sx_seq ?_
  refine sx_region ?_
  refine sxo_pure rfl rfl rfl trivial ?_
  refine sxo_load rfl rfl rfl (by exact .head) rfl rfl rfl rfl ?_
  refine sxo_call0 rfl rfl rfl rfl (by exact .nil) (fun Kc hK hB => file_ok Kc kB D (by decide)) rfl rfl ?_ (hH := by rintro v m ⟨s, hs, rfl, rfl⟩; (exact hh_nil))
  rintro v m ⟨s, hs, rfl, rfl⟩
  simp only [List.cons_append, List.nil_append, List.append_nil, resV]
  skip
  refine sxo_call0 rfl rfl rfl rfl (by (apply Take.cons; focus exact .tail .head); (apply Take.cons; focus exact .tail .head); (apply Take.cons; focus exact .tail .head); exact .nil) (fun Kc hK hB => is_ok Kc bs bd bg quota room bm st wr names _ (h s)) rfl rfl ?_ (hH := by rintro v m ⟨rfl, rfl⟩; (exact hh_nil))
  rintro v m ⟨rfl, rfl⟩
  simp only [List.cons_append, List.nil_append, List.append_nil, resV]
  refine sxo_pure rfl rfl rfl trivial ?_
  refine sxo_end ?_
  refine sx_retL hret hro hk (.tmp rfl .nil) ⟨rfl, rfl⟩ (by (apply Take.cons; focus exact .head); (apply Take.cons; focus exact .head); (apply Take.cons; focus exact .head); exact .nil)
theorem bytes_ok (name : ByteArray) (h : mget names name = none) : TR Tryz.prog K 115 [evPtr bs, .o (.string name)] [.blk bs 120 (storeCh bd quota bg), .blk bd 62 (diskCh room bm st wr), .map bm ekStr evPO names]
    fun v r => v = .t [.o (.slice none 0 0), .o (.bool false)] ∧ r = [.blk bs 120 (storeCh bd quota bg), .blk bd 62 (diskCh room bm st wr), .map bm ekStr evPO names] := by
  refine tr_intro Tryz.func115 rfl rfl rfl fun cx hro hk hret => ?_
  refine sx_seq ?_
  refine sx_region ?_
  refine sxo_pure rfl rfl rfl trivial ?_
  refine sxo_pure rfl rfl rfl trivial ?_
  refine sxo_end ?_
  refine sx_seq ?_
  refine sx_region ?_
  refine sxo_pure rfl rfl rfl trivial ?_
  refine sxo_pure rfl rfl rfl trivial ?_
  refine sxo_pure rfl rfl rfl trivial ?_
  refine sxo_load rfl rfl rfl (by exact .head) rfl rfl rfl rfl ?_
  refine sxo_pure rfl rfl rfl trivial ?_
  refine sxo_call0 rfl rfl rfl rfl (by (apply Take.cons; focus exact .tail .head); (apply Take.cons; focus exact .tail .head); exact .nil) (fun Kc hK hB => SizeNo_ok Kc bd room bm st wr names name h) rfl rfl ?_ (hH := by rintro v m ⟨rfl, rfl⟩; (exact hh_nil))
  rintro v m ⟨rfl, rfl⟩
  simp only [List.cons_append, List.nil_append, List.append_nil, resV]
  refine sxo_pure rfl rfl rfl trivial ?_
  refine sxo_pure rfl rfl rfl trivial ?_
  refine sxo_pure rfl rfl rfl trivial ?_
  refine sxo_pure rfl rfl rfl trivial ?_
  refine sxo_pure rfl rfl rfl trivial ?_
  refine sxo_end ?_
  refine sx_seq ?_
  refine sx_seq ?_
  refine sx_region ?_
  refine sxo_pure rfl rfl rfl trivial ?_
  refine sxo_pure rfl rfl rfl trivial ?_
  refine sxo_end ?_
  refine sx_condT rfl ?_
  refine sx_seq ?_
  refine sx_region ?_
  refine sxo_pure rfl rfl rfl trivial ?_
  refine sxo_pure rfl rfl rfl trivial ?_
  refine sxo_end ?_
  refine sx_retL hret hro hk (.tmp rfl (.tmp rfl .nil)) ⟨rfl, rfl⟩ (by (apply Take.cons; focus exact .tail (.tail .head)); (apply Take.cons; focus exact .head); (apply Take.cons; focus exact .head); exact .nil)
theorem Image_ok (D : Dig) (h : ∀ s : ByteArray, mget names (kI ++ s) = none) : TR Tryz.prog K 111 [evPtr bs, .g [.d D]] [.blk bs 120 (storeCh bd quota bg), .blk bd 62 (diskCh room bm st wr), .map bm ekStr evPO names]
    fun v r => v = .t [.g [.c (.slice none 0 0)], .o (.bool false)] ∧ r = [.blk bs 120 (storeCh bd quota bg), .blk bd 62 (diskCh room bm st wr), .map bm ekStr evPO names] := by
  refine tr_intro Tryz.func111 rfl rfl rfl fun cx hro hk hret => ?_
  refine sx_seq ?_
  refine sx_region ?_
  refine sxo_box rfl rfl rfl rfl rfl rfl (fun _ => ?_)
  refine sxo_alloc rfl rfl rfl rfl rfl rfl (fun _ => ?_)
  refine sxo_pure rfl rfl rfl trivial ?_
  refine sxo_end ?_
  refine sx_seq ?_
  refine sx_region ?_
  refine sxo_pure rfl rfl rfl trivial ?_
  refine sxo_load rfl rfl rfl (by exact .tail .head) rfl rfl rfl rfl ?_
  refine sxo_call0 rfl rfl rfl rfl (by exact .nil) (fun Kc hK hB => file_ok Kc kI D (by decide)) rfl rfl ?_ (hH := by rintro v m ⟨s, hs, rfl, rfl⟩; (exact hh_nil))
  rintro v m ⟨s, hs, rfl, rfl⟩
  simp only [List.cons_append, List.nil_append, List.append_nil, resV]
  skip
  refine sxo_call0 rfl rfl rfl rfl (by (apply Take.cons; focus exact .tail (.tail .head)); (apply Take.cons; focus exact .tail (.tail .head)); (apply Take.cons; focus exact .tail (.tail .head)); exact .nil) (fun Kc hK hB => bytes_ok Kc bs bd bg quota room bm st wr names _ (h s)) rfl rfl ?_ (hH := by rintro v m ⟨rfl, rfl⟩; (exact hh_nil))
  rintro v m ⟨rfl, rfl⟩
  simp only [List.cons_append, List.nil_append, List.append_nil, resV]
  refine sxo_pure rfl rfl rfl trivial ?_
  refine sxo_pure rfl rfl rfl trivial ?_
  refine sxo_pure rfl rfl rfl trivial ?_
  refine sxo_pure rfl rfl rfl trivial ?_
  refine sxo_pure rfl rfl rfl trivial ?_
  refine sxo_end ?_
  refine sx_seq ?_
  refine sx_seq ?_
  refine sx_region ?_
  refine sxo_pure rfl rfl rfl trivial ?_
  refine sxo_pure rfl rfl rfl trivial ?_
  refine sxo_end ?_
  refine sx_condT rfl ?_
  refine sx_seq ?_
  refine sx_region ?_
  refine sxo_build rfl rfl rfl rfl rfl rfl rfl rfl rfl ?_
  refine sxo_store rfl rfl rfl rfl (by exact .tail (.tail (.tail .head))) rfl rfl rfl rfl rfl ?_
  refine sxo_pure rfl rfl rfl trivial ?_
  refine sxo_end ?_
  refine sx_retL hret hro hk (.cell rfl (by exact .head) rfl rfl (.tmp rfl .nil)) ⟨rfl, rfl⟩ (by (apply Take.cons; focus exact .tail .head); (apply Take.cons; focus exact .tail .head); (apply Take.cons; focus exact .tail .head); exact .nil)
end
end Go.SX

namespace Go.SX
open Go.Proofs
attribute [local irreducible] SX SXo
set_option maxRecDepth 20000
set_option maxHeartbeats 4000000
@[reducible] def kP : ByteArray := ⟨#[112, 105, 101, 99, 101, 115]⟩
theorem hash_ok (K : Hp) : TR Tryz.prog K 108 [.o (.string kI), .o (.string kP)] [] fun v r => (∃ D, v = .t [.g [.d D], .o (.bool false)]) ∧ r = [] := by
  refine tr_intro Tryz.func108 rfl rfl rfl fun cx hro hk hret => ?_
  refine sx_seq ?_
  refine sx_region ?_
  refine sxo_alloc rfl rfl rfl rfl rfl rfl (fun _ => ?_)
  refine sxo_pure rfl rfl rfl trivial ?_
  refine sxo_end ?_
  refine sx_seq ?_
  refine sx_seq ?_
  refine sx_region ?_
  refine sxo_pure rfl rfl rfl trivial ?_
  refine sxo_lenS rfl rfl rfl rfl rfl rfl rfl ?_
  refine sxo_pure rfl rfl rfl trivial ?_
  refine sxo_lenS rfl rfl rfl rfl rfl rfl rfl ?_
  refine sxo_pure rfl rfl rfl trivial ?_
  refine sxo_pure rfl rfl rfl trivial ?_
  refine sxo_pure rfl rfl rfl trivial ?_
  refine sxo_pure rfl rfl rfl trivial ?_
  refine sxo_lenS rfl rfl rfl rfl rfl rfl rfl ?_
  refine sxo_sliceS rfl rfl rfl rfl rfl rfl rfl rfl (by decide) ?_
  have he : (!((kP.extract (loOf none).toNat (hiOf kP.size (some (kI.size : Int))).toNat).toList == kI.toList)) = true := by kernel_rfl
  refine sxo_pure rfl rfl rfl trivial ?_
  refine sxo_pure rfl rfl rfl trivial ?_
  refine sxo_pure rfl rfl rfl trivial ?_
  refine sxo_end ?_
  rw [he]
  refine sx_condT rfl ?_
  refine sx_seq ?_
  refine sx_region ?_
  refine sxo_buildA0 rfl rfl rfl rfl rfl rfl rfl ?_
  refine sxo_store rfl rfl rfl rfl (by exact .head) rfl rfl rfl rfl rfl ?_
  refine sxo_pure rfl rfl rfl trivial ?_
  refine sxo_end ?_
  refine sx_retL hret hro hk (.cell rfl (by exact .head) rfl rfl (.tmp rfl .nil)) ⟨⟨_, rfl⟩, rfl⟩ (by exact .nil)
section
variable (K : Hp) (bs bd bg : Nat) (quota room : Int) (bm : Nat) (st wr : Sl) (names : List (ByteArray × Option Nat))
theorem Images_ok (f : Nat) : TR Tryz.prog K 43 [evPtr bs] [.blk bs 120 (storeCh bd quota bg), .blk bd 62 (diskCh room bm st wr), .map bm ekStr evPO [(kP, some f)]]
    fun v r => v = .s (.o (.slice none 0 0)) ∧ r = [.blk bs 120 (storeCh bd quota bg), .blk bd 62 (diskCh room bm st wr), .map bm ekStr evPO [(kP, some f)]] := by
  refine tr_intro Tryz.func43 rfl rfl rfl fun cx hro hk hret => ?_
  refine sx_seq ?_
  refine sx_region ?_
  refine sxo_pure rfl rfl rfl trivial ?_
  refine sxo_end ?_
  refine sx_seq ?_
  refine sx_region ?_
  refine sxo_pure rfl rfl rfl trivial ?_
  refine sxo_end ?_
  refine sx_seq ?_
  refine sx_seq ?_
  refine sx_region ?_
  refine sxo_pure rfl rfl rfl trivial ?_
  refine sxo_pure rfl rfl rfl trivial ?_
  refine sxo_pure rfl rfl rfl trivial ?_
  refine sxo_load rfl rfl rfl (by exact .head) rfl rfl rfl rfl ?_
  refine sxo_call0 rfl rfl rfl rfl (by (apply Take.cons; focus exact .tail .head); (apply Take.cons; focus exact .tail .head); exact .nil) (fun Kc hK hB => Names_ok Kc bd room bm st wr [(kP, some f)] (by simp)) rfl rfl ?_ (hH := by rintro v m ⟨p, n, c, l, hl, rfl, rfl⟩; (exact hh_nil))
  rintro v m ⟨p, n, c, l, hl, rfl, rfl⟩
  simp only [List.cons_append, List.nil_append, List.append_nil, resV]
  have hl' : l = [kP] := List.perm_singleton.1 hl
  subst hl'
  refine sxo_len rfl rfl rfl rfl rfl (by exact Reads.own (by exact .head)) rfl rfl ?_
  refine sxo_pure rfl rfl rfl trivial ?_
  refine sxo_end ?_
  refine sx_block ?_
  refine sx_less (by refine .cons rfl ?_; refine .cons rfl ?_; refine .cons rfl ?_; refine .cons rfl ?_; exact .nil _) (by (apply Take.cons; focus exact .head); (apply Take.cons; focus exact .tail (.tail .head)); (apply Take.cons; focus exact .head); (apply Take.cons; focus exact .head); exact .nil) (sx_loopI (γ := Nat) (fun x => x ≤ 1) (fun x => 1 - x) (fun x => [(12, .s (.o (.slice p n c))), (13, .s (.o (.int .i64 (1 : Nat)))), (14, .s (.o (.int .i64 x))), (3, .s (.o (.slice none 0 0)))]) (fun _ => [.vec ⟨p, n, c⟩ 9 1 encS [kP], .blk bs 120 (storeCh bd quota bg), .blk bd 62 (diskCh room bm st wr), .map bm ekStr evPO [(kP, some f)]]) (0) (by omega) ?_)
  rintro j hj ih
  refine sx_seq ?_
  refine sx_region ?_
  refine sxo_pure rfl rfl rfl trivial ?_
  refine sxo_end ?_
  refine sx_seq ?_
  refine sx_cond rfl (fun h => ?_) (fun h => ?_)
  · have h0 : j = 0 := by have := of_decide_eq_true h; omega
    subst h0
    refine sx_skip ?_
    refine sx_seq ?_
    refine sx_block ?_
    refine sx_seq ?_
    refine sx_region ?_
    refine sxo_indexAddr rfl rfl rfl rfl rfl rfl rfl (Reads.own (by exact .head)) (by simp) rfl (fun _ _ => ?_)
    refine sxo_loadEl0 rfl rfl rfl (by exact .head) (Reads.own (by exact .tail .head)) rfl (by simp) (fun _ => rfl) rfl rfl (fun x hx => ?_)
    simp at hx
    subst hx
    refine sxo_pure rfl rfl rfl trivial ?_
    refine sxo_end ?_
    refine sx_seq ?_
    refine sx_region ?_
    refine sxo_pure rfl rfl rfl trivial ?_
    refine sxo_call0 rfl rfl rfl rfl (by exact .nil) (fun Kc hK hB => hash_ok Kc) rfl rfl ?_ (hH := by rintro v m ⟨⟨D, rfl⟩, rfl⟩; (exact hh_nil))
    rintro v m ⟨⟨D, rfl⟩, rfl⟩
    simp only [List.cons_append, List.nil_append, List.append_nil, resV]
    refine sxo_pure rfl rfl rfl trivial ?_
    refine sxo_pure rfl rfl rfl trivial ?_
    refine sxo_pure rfl rfl rfl trivial ?_
    refine sxo_alloc rfl rfl rfl rfl rfl rfl (fun _ => ?_)
    refine sxo_store rfl rfl rfl rfl (by exact .head) rfl rfl rfl rfl rfl ?_
    refine sxo_pure rfl rfl rfl trivial ?_
    refine sxo_end ?_
    refine sx_seq ?_
    refine sx_region ?_
    refine sxo_pure rfl rfl rfl trivial ?_
    refine sxo_end ?_
    refine sx_condF rfl ?_
    refine sx_skip ?_
    refine sx_inBlock ?_
    refine sx_region ?_
    refine sxo_pure rfl rfl rfl (by omega) ?_
    refine sxo_pure rfl rfl rfl trivial ?_
    refine sxo_end ?_
    refine sx_less (by refine .cons rfl ?_; refine .cons rfl ?_; refine .cons rfl ?_; refine .cons rfl ?_; exact .nil _) (by (apply Take.cons; focus exact .tail (.tail .head)); (apply Take.cons; focus exact .tail (.tail .head)); (apply Take.cons; focus exact .tail (.tail .head)); (apply Take.cons; focus exact .tail (.tail .head)); exact .nil) (ih (1) (by omega) (by omega))
  · refine sx_exit rfl ?_
    refine sx_seq ?_
    refine sx_region ?_
    refine sxo_pure rfl rfl rfl trivial ?_
    refine sxo_pure rfl rfl rfl trivial ?_
    refine sxo_end ?_
    refine sx_retL hret hro hk (.tmp rfl .nil) ⟨rfl, rfl⟩ (by (apply Take.cons; focus exact .tail .head); (apply Take.cons; focus exact .tail .head); (apply Take.cons; focus exact .tail .head); exact .nil)
theorem scrub_ok (kind : ByteArray) (Y : Value) : TR Tryz.prog K 53 [evPtr bs, .o (.string kind), .o Y] [.blk bs 120 (storeCh bd quota bg), .blk bd 62 (diskCh room bm st wr), .map bm ekStr evPO []]
    fun v r => v = .s (.o (.int .i64 0)) ∧ r = [.blk bs 120 (storeCh bd quota bg), .blk bd 62 (diskCh room bm st wr), .map bm ekStr evPO []] := by
  refine tr_intro Tryz.func53 rfl rfl rfl fun cx hro hk hret => ?_
  refine sx_seq ?_
  refine sx_region ?_
  refine sxo_pure rfl rfl rfl trivial ?_
  refine sxo_end ?_
  refine sx_seq ?_
  refine sx_seq ?_
  refine sx_region ?_
  refine sxo_pure rfl rfl rfl trivial ?_
  refine sxo_pure rfl rfl rfl trivial ?_
  refine sxo_pure rfl rfl rfl trivial ?_
  refine sxo_load rfl rfl rfl (by exact .head) rfl rfl rfl rfl ?_
  refine sxo_call0 rfl rfl rfl rfl (by (apply Take.cons; focus exact .tail .head); (apply Take.cons; focus exact .tail .head); exact .nil) (fun Kc hK hB => Names_ok Kc bd room bm st wr [] (by simp)) rfl rfl ?_ (hH := by rintro v m ⟨p, n, c, l, hl, rfl, rfl⟩; (exact hh_nil))
  rintro v m ⟨p, n, c, l, hl, rfl, rfl⟩
  simp only [List.cons_append, List.nil_append, List.append_nil, resV]
  have hl' : l = [] := List.Perm.eq_nil hl
  subst hl'
  refine sxo_len rfl rfl rfl rfl rfl (by exact Reads.own (by exact .head)) rfl rfl ?_
  refine sxo_pure rfl rfl rfl trivial ?_
  refine sxo_end ?_
  refine sx_block ?_
  refine sx_less (by refine .cons rfl ?_; refine .cons rfl ?_; exact .nil _) (by (apply Take.cons; focus exact .tail (.tail (.tail .head))); (apply Take.cons; focus exact .tail .head); (apply Take.cons; focus exact .tail .head); exact .nil) (sx_loopI (γ := Unit) (fun _ => True) (fun _ => 0) (fun _ => [(17, .s (.o (.int .i64 (0 : Nat)))), (18, .s (.o (.int .i64 0)))]) (fun _ => [.blk bs 120 (storeCh bd quota bg), .blk bd 62 (diskCh room bm st wr), .map bm ekStr evPO []]) (()) (trivial) ?_)
  rintro _ _ _
  refine sx_seq ?_
  refine sx_region ?_
  refine sxo_pure rfl rfl rfl trivial ?_
  refine sxo_end ?_
  refine sx_seq ?_
  refine sx_condF rfl ?_
  refine sx_exit rfl ?_
  refine sx_seq ?_
  refine sx_region ?_
  refine sxo_pure rfl rfl rfl trivial ?_
  refine sxo_end ?_
  refine sx_retL hret hro hk (.tmp rfl .nil) ⟨rfl, rfl⟩ (by (apply Take.cons; focus exact .head); (apply Take.cons; focus exact .head); (apply Take.cons; focus exact .head); exact .nil)
end
end Go.SX

namespace Go.SX
open Go.Proofs
attribute [local irreducible] SX SXo
set_option maxRecDepth 20000
set_option maxHeartbeats 4000000
section
variable (K : Hp) (b6 b8 bs bd bg : Nat) (quota room : Int) (bm : Nat) (st wr : Sl)
theorem open2_ok : TR Tryz.prog K 52 [evPtr b6] [.blk b6 66 [.c (.pointer (some ⟨bs, 0, none⟩))], .blk bs 120 (storeCh bd quota bg), .blk bd 62 (diskCh room bm st wr), .map bm ekStr evPO []]
    fun v r => v = .s (.o (.int .i64 0)) ∧ r = [.blk b6 66 [.c (.pointer (some ⟨bs, 0, none⟩))], .blk bs 120 (storeCh bd quota bg), .blk bd 62 (diskCh room bm st wr), .map bm ekStr evPO []] := by
  refine tr_intro Tryz.func52 rfl rfl rfl fun cx hro hk hret => ?_
  refine sx_seq ?_
  refine sx_region ?_
  refine sxo_pure rfl rfl rfl trivial ?_
  refine sxo_end ?_
  refine sx_seq ?_
  refine sx_region ?_
  refine sxo_load rfl rfl rfl (by exact .head) rfl rfl rfl rfl ?_
  refine sxo_load rfl rfl rfl (by exact .head) rfl rfl rfl rfl ?_
  refine sxo_pure rfl rfl rfl trivial ?_
  refine sxo_call0 rfl rfl rfl rfl (by (apply Take.cons; focus exact .tail .head); (apply Take.cons; focus exact .tail .head); (apply Take.cons; focus exact .tail .head); exact .nil) (fun Kc hK hB => scrub_ok Kc bs bd bg quota room bm st wr _ _) rfl rfl ?_ (hH := by rintro v m ⟨rfl, rfl⟩; (exact hh_nil))
  rintro v m ⟨rfl, rfl⟩
  simp only [List.cons_append, List.nil_append, List.append_nil, resV]
  refine sxo_pure rfl rfl rfl trivial ?_
  refine sxo_end ?_
  refine sx_retL hret hro hk (.tmp rfl .nil) ⟨rfl, rfl⟩ (by (apply Take.cons; focus exact .tail (.tail (.tail .head))); (apply Take.cons; focus exact .head); (apply Take.cons; focus exact .head); (apply Take.cons; focus exact .head); exact .nil)
theorem open3_ok : TR Tryz.prog K 55 [evPtr b6, evPtr b8] [.blk b6 66 [.c (.pointer (some ⟨bs, 0, none⟩))], .blk bs 120 (storeCh bd quota bg), .blk bd 62 (diskCh room bm st wr), .map bm ekStr evPO [], .blk b8 113 [.c (.func (.func 50) #[] #[])]]
    fun v r => v = .s (.o (.int .i64 0)) ∧ r = [.blk b6 66 [.c (.pointer (some ⟨bs, 0, none⟩))], .blk bs 120 (storeCh bd quota bg), .blk bd 62 (diskCh room bm st wr), .map bm ekStr evPO [], .blk b8 113 [.c (.func (.func 50) #[] #[])]] := by
  refine tr_intro Tryz.func55 rfl rfl rfl fun cx hro hk hret => ?_
  refine sx_seq ?_
  refine sx_region ?_
  refine sxo_pure rfl rfl rfl trivial ?_
  refine sxo_end ?_
  refine sx_seq ?_
  refine sx_region ?_
  refine sxo_load rfl rfl rfl (by exact .head) rfl rfl rfl rfl ?_
  refine sxo_load rfl rfl rfl (by exact .tail (.tail (.tail (.tail .head)))) rfl rfl rfl rfl ?_
  refine sxo_call0 rfl rfl rfl rfl (by (apply Take.cons; focus exact .tail .head); (apply Take.cons; focus exact .tail .head); (apply Take.cons; focus exact .tail .head); exact .nil) (fun Kc hK hB => scrub_ok Kc bs bd bg quota room bm st wr _ _) rfl rfl ?_ (hH := by rintro v m ⟨rfl, rfl⟩; (exact hh_nil))
  rintro v m ⟨rfl, rfl⟩
  simp only [List.cons_append, List.nil_append, List.append_nil, resV]
  refine sxo_pure rfl rfl rfl trivial ?_
  refine sxo_end ?_
  refine sx_retL hret hro hk (.tmp rfl .nil) ⟨rfl, rfl⟩ (by (apply Take.cons; focus exact .tail (.tail (.tail .head))); (apply Take.cons; focus exact .head); (apply Take.cons; focus exact .head); (apply Take.cons; focus exact .head); (apply Take.cons; focus exact .head); exact .nil)
theorem open4_ok : TR Tryz.prog K 56 [evPtr b6] [.blk b6 66 [.c (.pointer (some ⟨bs, 0, none⟩))], .blk bs 120 (storeCh bd quota bg), .blk bd 62 (diskCh room bm st wr), .map bm ekStr evPO []]
    fun v r => v = .s (.o (.int .i64 0)) ∧ r = [.blk b6 66 [.c (.pointer (some ⟨bs, 0, none⟩))], .blk bs 120 (storeCh bd quota bg), .blk bd 62 (diskCh room bm st wr), .map bm ekStr evPO []] := by
  refine tr_intro Tryz.func56 rfl rfl rfl fun cx hro hk hret => ?_
  refine sx_seq ?_
  refine sx_region ?_
  refine sxo_pure rfl rfl rfl trivial ?_
  refine sxo_end ?_
  refine sx_seq ?_
  refine sx_region ?_
  refine sxo_load rfl rfl rfl (by exact .head) rfl rfl rfl rfl ?_
  refine sxo_load rfl rfl rfl (by exact .head) rfl rfl rfl rfl ?_
  refine sxo_pure rfl rfl rfl trivial ?_
  refine sxo_call0 rfl rfl rfl rfl (by (apply Take.cons; focus exact .tail .head); (apply Take.cons; focus exact .tail .head); (apply Take.cons; focus exact .tail .head); exact .nil) (fun Kc hK hB => scrub_ok Kc bs bd bg quota room bm st wr _ _) rfl rfl ?_ (hH := by rintro v m ⟨rfl, rfl⟩; (exact hh_nil))
  rintro v m ⟨rfl, rfl⟩
  simp only [List.cons_append, List.nil_append, List.append_nil, resV]
  refine sxo_pure rfl rfl rfl trivial ?_
  refine sxo_end ?_
  refine sx_retL hret hro hk (.tmp rfl .nil) ⟨rfl, rfl⟩ (by (apply Take.cons; focus exact .tail (.tail (.tail .head))); (apply Take.cons; focus exact .head); (apply Take.cons; focus exact .head); (apply Take.cons; focus exact .head); exact .nil)
end
theorem blobsOpen_ok (K : Hp) (bd : Nat) (room : Int) (bm : Nat) (st wr : Sl) (quota : Int) (hq : 1 ≤ quota ∧ quota ≤ 1073741824) : TR Tryz.prog K 18 [evPtr bd, .o (.int .i64 quota)] [.blk bd 62 (diskCh room bm st wr), .map bm ekStr evPO []]
    fun v r => ∃ bs bg, v = .t [evPtr bs, .o (.int .i64 0)] ∧ r = [.blk bs 120 (storeCh bd quota bg), .blk bd 62 (diskCh room bm st wr), .map bm ekStr evPO []] := by
  refine tr_intro Tryz.func18 rfl rfl rfl fun cx hro hk hret => ?_
  refine sx_seq ?_
  refine sx_region ?_
  refine sxo_pure rfl rfl rfl trivial ?_
  refine sxo_pure rfl rfl rfl trivial ?_
  refine sxo_end ?_
  refine sx_seq ?_
  refine sx_block ?_
  refine sx_seq ?_
  refine sx_region ?_
  refine sxo_pure rfl rfl rfl trivial ?_
  refine sxo_eqPtr rfl rfl rfl rfl rfl rfl rfl rfl ?_
  refine sxo_pure rfl rfl rfl trivial ?_
  refine sxo_pure rfl rfl rfl trivial ?_
  refine sxo_pure rfl rfl rfl trivial ?_
  refine sxo_pure rfl rfl rfl trivial ?_
  refine sxo_pure rfl rfl rfl trivial ?_
  refine sxo_split (t := 17) rfl (fun h1 => ?_) (fun h1 => ?_)
  · simp at h1; omega
  refine sxo_pure rfl rfl rfl trivial ?_
  refine sxo_pure rfl rfl rfl trivial ?_
  refine sxo_pure rfl rfl rfl trivial ?_
  refine sxo_pure rfl rfl rfl trivial ?_
  refine sxo_end ?_
  refine sx_cond rfl (fun h2 => ?_) (fun h2 => ?_)
  · simp at h2; omega
  refine sx_seq ?_
  refine sx_region ?_
  refine sxo_pure rfl rfl rfl trivial ?_
  refine sxo_call0 rfl rfl rfl rfl (by (apply Take.cons; focus exact .head); exact .nil) (fun Kc hK hB => Off_ok Kc bd room bm st wr) rfl rfl ?_ (hH := by rintro v m ⟨rfl, rfl⟩; (exact hh_nil))
  rintro v m ⟨rfl, rfl⟩
  simp only [List.cons_append, List.nil_append, List.append_nil, resV]
  refine sxo_pure rfl rfl rfl trivial ?_
  refine sxo_end ?_
  refine sx_condF rfl ?_
  refine sx_skip ?_
  refine sx_inBlock ?_
  refine sx_seq ?_
  refine sx_region ?_
  refine sxo_pure rfl rfl rfl trivial ?_
  refine sxo_pure rfl rfl rfl trivial ?_
  refine sxo_makeMap ekInt evM rfl rfl rfl rfl (fun bg => ?_)
  refine sxo_build rfl rfl rfl rfl rfl rfl rfl rfl rfl ?_
  refine sxo_box rfl rfl rfl rfl rfl rfl (fun _ => ?_)
  refine sxo_alloc rfl rfl rfl rfl rfl rfl (fun _ => ?_)
  refine sxo_store rfl rfl rfl rfl (by exact .head) rfl rfl rfl rfl rfl ?_
  refine sxo_end ?_
  refine sx_seq ?_
  refine sx_region ?_
  refine sxo_pure rfl rfl rfl trivial ?_
  refine sxo_call0 rfl rfl rfl rfl (by (apply Take.cons; focus exact .tail (.tail (.tail .head))); (apply Take.cons; focus exact .tail (.tail (.tail .head))); exact .nil) (fun Kc hK hB => Names_ok Kc bd room bm st wr [] (by simp)) rfl rfl ?_ (hH := by rintro v m ⟨p, n, c, l, hl, rfl, rfl⟩; (exact hh_nil))
  rintro v m ⟨p, n, c, l, hl, rfl, rfl⟩
  simp only [List.cons_append, List.nil_append, List.append_nil, resV]
  have hl' : l = [] := List.Perm.eq_nil hl
  subst hl'
  refine sxo_pure rfl rfl rfl trivial ?_
  refine sxo_end ?_
  refine sx_seq ?_
  refine sx_region ?_
  refine sxo_alloc rfl rfl rfl rfl rfl rfl (fun _ => ?_)
  refine sxo_store rfl rfl rfl rfl (by exact .head) rfl rfl rfl rfl rfl ?_
  refine sxo_end ?_
  refine sx_seq ?_
  refine sx_region ?_
  refine sxo_pure rfl rfl rfl trivial ?_
  refine sxo_pure rfl rfl rfl trivial ?_
  refine sxo_pure rfl rfl rfl trivial ?_
  refine sxo_buildSlice rfl rfl rfl rfl rfl rfl rfl rfl rfl rfl rfl rfl rfl (fun _ => ?_)
  rename_i bs b6 b8 bf
  refine sxo_recast (.vec ⟨some ⟨bf, 0, none⟩, 3, 3⟩ 76 1 encV [.func (.func 52) #[] #[.pointer (some ⟨b6, 0, none⟩)], .func (.func 55) #[] #[.pointer (some ⟨b6, 0, none⟩), .pointer (some ⟨b8, 0, none⟩)], .func (.func 56) #[] #[.pointer (some ⟨b6, 0, none⟩)]]) .head (fun _ hb => blk_vec hb rfl rfl (fun _ _ => rfl)) ?_
  have hS : ∀ (Kd : Hp) (i : Nat) (Y : Value) (m : List Ent), ([.func (.func 52) #[] #[.pointer (some ⟨b6, 0, none⟩)], .func (.func 55) #[] #[.pointer (some ⟨b6, 0, none⟩), .pointer (some ⟨b8, 0, none⟩)], .func (.func 56) #[] #[.pointer (some ⟨b6, 0, none⟩)]] : List Value)[i]? = some Y → m = [.blk b8 113 [.c (.func (.func 50) #[] #[])], .vec ⟨p, n, c⟩ 9 1 encS [], .blk bd 62 (diskCh room bm st wr), .map bm ekStr evPO [], .blk b6 66 [.c (.pointer (some ⟨bs, 0, none⟩))], .blk bs 120 (storeCh bd quota bg), .map bg ekInt evM []] → TRV Tryz.prog Kd Y [] m fun v m' => v = .s (.o (.int .i64 0)) ∧ m' = [.blk b8 113 [.c (.func (.func 50) #[] #[])], .vec ⟨p, n, c⟩ 9 1 encS [], .blk bd 62 (diskCh room bm st wr), .map bm ekStr evPO [], .blk b6 66 [.c (.pointer (some ⟨bs, 0, none⟩))], .blk bs 120 (storeCh bd quota bg), .map bg ekInt evM []] := by
    intro Kd i Y m hY hm
    subst hm
    match i, hY with
    | 0, hY =>
      simp only [List.getElem?_cons_zero, Option.some.injEq] at hY
      subst hY
      refine TRV.frameQ (by (apply Take.cons; focus exact .tail (.tail (.tail (.tail .head)))); (apply Take.cons; focus exact .tail (.tail (.tail (.tail .head)))); (apply Take.cons; focus exact .tail (.tail .head)); (apply Take.cons; focus exact .tail (.tail .head)); exact .nil) (fun Kc _ => TR.val (open2_ok Kc b6 bs bd bg quota room bm st wr) rfl) ?_
      rintro v m1 ⟨rfl, rfl⟩
      exact ⟨_, Take.permTo (by (apply Take.cons; focus exact .tail (.tail (.tail (.tail .head)))); (apply Take.cons; focus exact .tail (.tail (.tail (.tail .head)))); (apply Take.cons; focus exact .tail (.tail .head)); (apply Take.cons; focus exact .tail (.tail .head)); (apply Take.cons; focus exact .head); (apply Take.cons; focus exact .head); (apply Take.cons; focus exact .head); exact .nil), rfl, rfl⟩
    | 1, hY =>
      simp only [List.getElem?_cons_zero, List.getElem?_cons_succ, Option.some.injEq] at hY
      subst hY
      refine TRV.frameQ (by (apply Take.cons; focus exact .tail (.tail (.tail (.tail .head)))); (apply Take.cons; focus exact .tail (.tail (.tail (.tail .head)))); (apply Take.cons; focus exact .tail (.tail .head)); (apply Take.cons; focus exact .tail (.tail .head)); (apply Take.cons; focus exact .head); exact .nil) (fun Kc _ => TR.val (open3_ok Kc b6 b8 bs bd bg quota room bm st wr) rfl) ?_
      rintro v m1 ⟨rfl, rfl⟩
      exact ⟨_, Take.permTo (by (apply Take.cons; focus exact .tail (.tail (.tail (.tail .head)))); (apply Take.cons; focus exact .tail (.tail (.tail (.tail .head)))); (apply Take.cons; focus exact .tail (.tail .head)); (apply Take.cons; focus exact .tail (.tail .head)); (apply Take.cons; focus exact .head); (apply Take.cons; focus exact .head); (apply Take.cons; focus exact .head); exact .nil), rfl, rfl⟩
    | 2, hY =>
      simp only [List.getElem?_cons_zero, List.getElem?_cons_succ, Option.some.injEq] at hY
      subst hY
      refine TRV.frameQ (by (apply Take.cons; focus exact .tail (.tail (.tail (.tail .head)))); (apply Take.cons; focus exact .tail (.tail (.tail (.tail .head)))); (apply Take.cons; focus exact .tail (.tail .head)); (apply Take.cons; focus exact .tail (.tail .head)); exact .nil) (fun Kc _ => TR.val (open4_ok Kc b6 bs bd bg quota room bm st wr) rfl) ?_
      rintro v m1 ⟨rfl, rfl⟩
      exact ⟨_, Take.permTo (by (apply Take.cons; focus exact .tail (.tail (.tail (.tail .head)))); (apply Take.cons; focus exact .tail (.tail (.tail (.tail .head)))); (apply Take.cons; focus exact .tail (.tail .head)); (apply Take.cons; focus exact .tail (.tail .head)); (apply Take.cons; focus exact .head); (apply Take.cons; focus exact .head); (apply Take.cons; focus exact .head); exact .nil), rfl, rfl⟩
    | k + 3, hY => simp at hY
  refine sxo_call0 rfl rfl rfl rfl .all (fun Kc hK hB => allB_ok Kc (some ⟨bf, 0, none⟩) 3 3 _ _ (fun _ m => m = [.blk b8 113 [.c (.func (.func 50) #[] #[])], .vec ⟨p, n, c⟩ 9 1 encS [], .blk bd 62 (diskCh room bm st wr), .map bm ekStr evPO [], .blk b6 66 [.c (.pointer (some ⟨bs, 0, none⟩))], .blk bs 120 (storeCh bd quota bg), .map bg ekInt evM []]) rfl (by simp) (fun Kd hd i Y m h1 h2 => hS Kd i Y m h1 h2)) rfl rfl ?_
  rintro v m ⟨rfl, m', hm', rfl⟩
  subst hm'
  simp only [List.cons_append, List.append_nil]
  refine sxo_pure rfl rfl rfl trivial ?_
  refine sxo_end ?_
  refine sx_seq ?_
  refine sx_seq ?_
  refine sx_region ?_
  refine sxo_pure rfl rfl rfl trivial ?_
  refine sxo_pure rfl rfl rfl trivial ?_
  refine sxo_pure rfl rfl rfl trivial ?_
  refine sxo_pure rfl rfl rfl trivial ?_
  refine sxo_call0 rfl rfl rfl rfl (by (apply Take.cons; focus exact .tail (.tail (.tail .head))); (apply Take.cons; focus exact .tail (.tail (.tail .head))); exact .nil) (fun Kc hK hB => Names_ok Kc bd room bm st wr [] (by simp)) rfl rfl ?_ (hH := by rintro v m ⟨p1, n1, c1, l1, hl1, rfl, rfl⟩; (exact hh_nil))
  rintro v m ⟨p1, n1, c1, l1, hl1, rfl, rfl⟩
  simp only [List.cons_append, List.nil_append, List.append_nil, resV]
  have hl1' : l1 = [] := List.Perm.eq_nil hl1
  subst hl1'
  refine sxo_len rfl rfl rfl rfl rfl (by exact Reads.own (by exact .head)) rfl rfl ?_
  refine sxo_pure rfl rfl rfl trivial ?_
  refine sxo_len rfl rfl rfl rfl rfl (by exact Reads.own (by exact .tail (.tail (.tail (.tail (.tail .head)))))) rfl rfl ?_
  refine sxo_pure rfl rfl rfl trivial ?_
  refine sxo_pure rfl rfl rfl trivial ?_
  refine sxo_end ?_
  refine sx_condF rfl ?_
  refine sx_skip ?_
  refine sx_seq ?_
  refine sx_seq ?_
  refine sx_region ?_
  refine sxo_pure rfl rfl rfl trivial ?_
  refine sxo_pure rfl rfl rfl trivial ?_
  refine sxo_end ?_
  refine sx_condF rfl ?_
  refine sx_skip ?_
  refine sx_seq ?_
  refine sx_region ?_
  refine sxo_load rfl rfl rfl (by exact .tail (.tail (.tail (.tail (.tail (.tail .head)))))) rfl rfl rfl rfl ?_
  refine sxo_pure rfl rfl rfl trivial ?_
  refine sxo_pure rfl rfl rfl trivial ?_
  refine sxo_end ?_
  refine sx_retL hret hro hk (.tmp rfl (.tmp rfl .nil)) ⟨bs, bg, rfl, rfl⟩ (by (apply Take.cons; focus exact .tail (.tail (.tail (.tail (.tail (.tail (.tail .head))))))); (apply Take.cons; focus exact .tail .head); (apply Take.cons; focus exact .tail .head); exact .nil)
end Go.SX

namespace Go.SX
open Go.Proofs
attribute [local irreducible] SX SXo
set_option maxRecDepth 20000
set_option maxHeartbeats 4000000
theorem good_kP : goodS kP = true := by kernel_rfl
theorem good_kPn : goodS (kP ++ dotNew) = true := by kernel_rfl
theorem kP_ne : ¬ kP = kP ++ dotNew := fun h => by
  have := congrArg ByteArray.size h
  rw [ByteArray.size_append] at this
  have e1 : kP.size = 6 := rfl
  have e2 : dotNew.size = 4 := rfl
  omega
@[reducible] def tableCh (bs jb : Nat) : List Ch := [.c (.pointer (some ⟨bs, 0, none⟩)), .c (.pointer (some ⟨jb, 0, none⟩)), .c (.slice none 0 0), .c (.bool false)]
theorem Blobs_ok (K : Hp) (bt bs jb : Nat) : TR Tryz.prog K 44 [evPtr bt] [.blk bt 131 (tableCh bs jb)]
    fun v r => v = .s (.o (.slice none 0 0)) ∧ r = [.blk bt 131 (tableCh bs jb)] := by
  refine tr_intro Tryz.func44 rfl rfl rfl fun cx hro hk hret => ?_
  refine sx_seq ?_
  refine sx_region ?_
  refine sxo_pure rfl rfl rfl trivial ?_
  refine sxo_end ?_
  refine sx_seq ?_
  refine sx_region ?_
  refine sxo_pure rfl rfl rfl trivial ?_
  refine sxo_end ?_
  refine sx_seq ?_
  refine sx_seq ?_
  refine sx_region ?_
  refine sxo_pure rfl rfl rfl trivial ?_
  refine sxo_pure rfl rfl rfl trivial ?_
  refine sxo_pure rfl rfl rfl trivial ?_
  refine sxo_load rfl rfl rfl (by exact .head) rfl rfl rfl rfl ?_
  refine sxo_lenV rfl rfl rfl rfl rfl rfl rfl ?_
  refine sxo_pure rfl rfl rfl trivial ?_
  refine sxo_end ?_
  refine sx_block ?_
  refine sx_less (by refine .cons rfl ?_; refine .cons rfl ?_; refine .cons rfl ?_; exact .nil _) (by (apply Take.cons; focus exact .head); exact .nil) (sx_loopI (γ := Unit) (fun _ => True) (fun _ => 0) (fun _ => [(10, .s (.o (.int .i64 (0 : Nat)))), (11, .s (.o (.int .i64 0))), (3, .s (.o (.slice none 0 0)))]) (fun _ => [.blk bt 131 (tableCh bs jb)]) (()) (trivial) ?_)
  rintro _ _ _
  refine sx_seq ?_
  refine sx_region ?_
  refine sxo_pure rfl rfl rfl trivial ?_
  refine sxo_end ?_
  refine sx_seq ?_
  refine sx_condF rfl ?_
  refine sx_exit rfl ?_
  refine sx_seq ?_
  refine sx_region ?_
  refine sxo_pure rfl rfl rfl trivial ?_
  refine sxo_pure rfl rfl rfl trivial ?_
  refine sxo_end ?_
  refine sx_retL hret hro hk (.tmp rfl .nil) ⟨rfl, rfl⟩ (by (apply Take.cons; focus exact .head); exact .nil)
theorem piecesOpen_ok (K : Hp) (bd bs bg : Nat) (quota room : Int) (bm : Nat) (st : Sl) (sts : List Nat) (hroom : 201000 ≤ room) (hs : sts.length ≤ 100) :
    TR Tryz.prog K 20 [evPtr bd, evPtr bs] [.blk bd 62 (diskCh room bm st ⟨none, 0, 0⟩), .map bm ekStr evPO [], .vec st 58 1 encMp sts, .blk bs 120 (storeCh bd quota bg)]
    fun v r => ∃ bt jb bm' st' wr' f, v = .t [evPtr bt, .o (.int .i64 0)] ∧ r = [.blk bt 131 (tableCh bs jb), .blk bs 120 (storeCh bd quota bg), .blk bd 62 (diskCh room bm' st' wr'), .map bm' ekStr evPO [(kP, some f)]] := by
  have hnil : ∀ f : Nat, mput (mdel (mput [] (kP ++ dotNew) (some f)) (kP ++ dotNew)) kP (some f) = [(kP, some f)] := fun f => by simp [mput, mdel]
  have hone : ∀ f g : Nat, mput (mdel (mput [(kP, some f)] (kP ++ dotNew) (some g)) (kP ++ dotNew)) kP (some g) = [(kP, some g)] := fun f g => by simp [mput, mdel, kP_ne]
  refine tr_intro Tryz.func20 rfl rfl rfl fun cx hro hk hret => ?_
  refine sx_seq ?_
  refine sx_region ?_
  refine sxo_pure rfl rfl rfl trivial ?_
  refine sxo_pure rfl rfl rfl trivial ?_
  refine sxo_end ?_
  refine sx_seq ?_
  refine sx_seq ?_
  refine sx_region ?_
  refine sxo_pure rfl rfl rfl trivial ?_
  refine sxo_eqPtr rfl rfl rfl rfl rfl rfl rfl rfl ?_
  refine sxo_pure rfl rfl rfl trivial ?_
  refine sxo_pure rfl rfl rfl trivial ?_
  refine sxo_eqPtr rfl rfl rfl rfl rfl rfl rfl rfl ?_
  refine sxo_pure rfl rfl rfl trivial ?_
  refine sxo_end ?_
  refine sx_condF rfl ?_
  refine sx_skip ?_
  refine sx_seq ?_
  refine sx_region ?_
  refine sxo_pure rfl rfl rfl trivial ?_
  refine sxo_call0 rfl rfl rfl rfl (by (apply Take.cons; focus exact .head); (apply Take.cons; focus exact .head); (apply Take.cons; focus exact .head); exact .nil) (fun Kc hK hB => journalOpen_ok Kc bd kP room bm st sts good_kP good_kPn hroom hs) rfl rfl ?_ (hH := by rintro v m ⟨jb, bm1, st1, wr1, f1, a1, ha1, rfl, rfl⟩; (exact hh_nil))
  rintro v m ⟨jb, bm1, st1, wr1, f1, a1, ha1, rfl, rfl⟩
  simp only [List.cons_append, List.nil_append, List.append_nil, resV]
  rw [hnil f1]
  refine sxo_pure rfl rfl rfl trivial ?_
  refine sxo_pure rfl rfl rfl trivial ?_
  refine sxo_pure rfl rfl rfl trivial ?_
  refine sxo_pure rfl rfl rfl trivial ?_
  refine sxo_pure rfl rfl rfl trivial ?_
  refine sxo_pure rfl rfl rfl trivial ?_
  refine sxo_pure rfl rfl rfl trivial ?_
  refine sxo_end ?_
  refine sx_seq ?_
  refine sx_seq ?_
  refine sx_region ?_
  refine sxo_pure rfl rfl rfl trivial ?_
  refine sxo_pure rfl rfl rfl trivial ?_
  refine sxo_end ?_
  refine sx_condF rfl ?_
  refine sx_skip ?_
  refine sx_seq ?_
  refine sx_region ?_
  refine sxo_pure rfl rfl rfl trivial ?_
  refine sxo_pure rfl rfl rfl trivial ?_
  refine sxo_build rfl rfl rfl rfl rfl rfl rfl rfl rfl ?_
  refine sxo_box rfl rfl rfl rfl rfl rfl (fun _ => ?_)
  refine sxo_pure rfl rfl rfl trivial ?_
  refine sxo_end ?_
  refine sx_seq ?_
  refine sx_seq ?_
  refine sx_region ?_
  refine sxo_pure rfl rfl rfl trivial ?_
  refine sxo_lenV rfl rfl rfl rfl rfl rfl rfl ?_
  refine sxo_pure rfl rfl rfl trivial ?_
  refine sxo_end ?_
  refine sx_block ?_
  rename_i bt
  refine sx_less (by refine .cons rfl ?_; refine .cons rfl ?_; refine .cons rfl ?_; refine .cons rfl ?_; refine .cons rfl ?_; refine .cons rfl ?_; exact .nil _) (by (apply Take.cons; focus exact .head); (apply Take.cons; focus exact .head); (apply Take.cons; focus exact .head); (apply Take.cons; focus exact .head); (apply Take.cons; focus exact .head); (apply Take.cons; focus exact .head); (apply Take.cons; focus exact .head); (apply Take.cons; focus exact .head); exact .nil) (sx_loopI (γ := Unit) (fun _ => True) (fun _ => 0) (fun _ => [(0, .s (evPtr bd)), (1, .s (evPtr bs)), (6, .s (evPtr jb)), (9, .s (evPtr bt)), (38, .s (.o (.int .i64 (0 : Nat)))), (39, .s (.o (.int .i64 0)))]) (fun _ => [.blk bt 131 (tableCh bs jb), .blk jb 239 (jCh bd kP 1 0 0 false), .blk bd 62 (diskCh room bm1 st1 wr1), .map bm1 ekStr evPO [(kP, some f1)], .vec st1 58 1 encMp [bm1], .vec wr1 370 3 encLate [], .blk f1 326 (fileCh a1 a1), .blk bs 120 (storeCh bd quota bg)]) (()) (trivial) ?_)
  rintro _ _ _
  refine sx_seq ?_
  refine sx_region ?_
  refine sxo_pure rfl rfl rfl trivial ?_
  refine sxo_end ?_
  refine sx_seq ?_
  refine sx_condF rfl ?_
  refine sx_exit rfl ?_
  refine sx_seq ?_
  refine sx_region ?_
  refine sxo_pure rfl rfl rfl trivial ?_
  refine sxo_pure rfl rfl rfl trivial ?_
  refine sxo_pure rfl rfl rfl trivial ?_
  refine sxo_load rfl rfl rfl (by exact .head) rfl rfl rfl rfl ?_
  refine sxo_pure rfl rfl rfl trivial ?_
  refine sxo_end ?_
  refine sx_seq ?_
  refine sx_region ?_
  refine sxo_pure rfl rfl rfl trivial ?_
  refine sxo_pure rfl rfl rfl trivial ?_
  refine sxo_pure rfl rfl rfl trivial ?_
  refine sxo_store rfl rfl rfl rfl (by exact .head) rfl rfl rfl rfl rfl ?_
  refine sxo_end ?_
  refine sx_seq ?_
  refine sx_region ?_
  refine sxo_pure rfl rfl rfl trivial ?_
  refine sxo_end ?_
  refine sx_seq ?_
  refine sx_seq ?_
  refine sx_region ?_
  refine sxo_pure rfl rfl rfl trivial ?_
  refine sxo_lenV rfl rfl rfl rfl rfl rfl rfl ?_
  refine sxo_pure rfl rfl rfl trivial ?_
  refine sxo_end ?_
  refine sx_block ?_
  refine sx_less (by refine .cons rfl ?_; refine .cons rfl ?_; refine .cons rfl ?_; refine .cons rfl ?_; refine .cons rfl ?_; refine .cons rfl ?_; refine .cons rfl ?_; exact .nil _) (by (apply Take.cons; focus exact .head); (apply Take.cons; focus exact .head); (apply Take.cons; focus exact .head); (apply Take.cons; focus exact .head); (apply Take.cons; focus exact .head); (apply Take.cons; focus exact .head); (apply Take.cons; focus exact .head); (apply Take.cons; focus exact .head); exact .nil) (sx_loopI (γ := Unit) (fun _ => True) (fun _ => 0) (fun _ => [(0, .s (evPtr bd)), (1, .s (evPtr bs)), (6, .s (evPtr jb)), (9, .s (evPtr bt)), (13, .s (.o (.slice none 0 0))), (55, .s (.o (.int .i64 (0 : Nat)))), (56, .s (.o (.int .i64 0)))]) (fun _ => [.blk bt 131 (tableCh bs jb), .blk jb 239 (jCh bd kP 1 0 0 false), .blk bd 62 (diskCh room bm1 st1 wr1), .map bm1 ekStr evPO [(kP, some f1)], .vec st1 58 1 encMp [bm1], .vec wr1 370 3 encLate [], .blk f1 326 (fileCh a1 a1), .blk bs 120 (storeCh bd quota bg)]) (()) (trivial) ?_)
  rintro _ _ _
  refine sx_seq ?_
  refine sx_region ?_
  refine sxo_pure rfl rfl rfl trivial ?_
  refine sxo_end ?_
  refine sx_seq ?_
  refine sx_condF rfl ?_
  refine sx_exit rfl ?_
  refine sx_seq ?_
  refine sx_seq ?_
  refine sx_region ?_
  refine sxo_pure rfl rfl rfl trivial ?_
  refine sxo_pure rfl rfl rfl trivial ?_
  refine sxo_call0 rfl rfl rfl rfl (by (apply Take.cons; focus exact .tail .head); (apply Take.cons; focus exact .tail .head); (apply Take.cons; focus exact .tail .head); (apply Take.cons; focus exact .tail .head); (apply Take.cons; focus exact .tail .head); (apply Take.cons; focus exact .tail .head); exact .nil) (fun Kc hK hB => Compact_ok Kc jb bd kP 1 0 0 room bm1 st1 wr1 [bm1] [(kP, some f1)] [.blk f1 326 (fileCh a1 a1)] good_kP good_kPn hroom (by simp) (by simp) (by simp [mget, kP_ne]) (by intro x hx; simp at hx; subst hx; exact ⟨f1, a1, a1, [], rfl, .head, by omega⟩)) rfl rfl ?_ (hH := by rintro v m ⟨bm2, st2, wr2, f2, a2, ha2, rfl, rfl⟩; (exact hh_nil))
  rintro v m ⟨bm2, st2, wr2, f2, a2, ha2, rfl, rfl⟩
  simp only [List.cons_append, List.nil_append, List.append_nil, resV]
  rw [hone f1 f2]
  refine sxo_pure rfl rfl rfl trivial ?_
  refine sxo_end ?_
  refine sx_seq ?_
  refine sx_region ?_
  refine sxo_pure rfl rfl rfl trivial ?_
  refine sxo_pure rfl rfl rfl trivial ?_
  refine sxo_end ?_
  refine sx_condF rfl ?_
  refine sx_skip ?_
  refine sx_seq ?_
  refine sx_region ?_
  refine sxo_pure rfl rfl rfl trivial ?_
  refine sxo_pure rfl rfl rfl trivial ?_
  refine sxo_pure rfl rfl rfl trivial ?_
  refine sxo_end ?_
  refine sx_retL hret hro hk (.tmp rfl (.tmp rfl .nil)) ⟨bt, jb, bm2, st2, wr2, f2, rfl, rfl⟩ (by (apply Take.cons; focus exact .tail (.tail (.tail (.tail (.tail (.tail (.tail .head))))))); (apply Take.cons; focus exact .tail (.tail (.tail (.tail (.tail (.tail (.tail .head))))))); (apply Take.cons; focus exact .tail .head); (apply Take.cons; focus exact .tail .head); exact .nil)
end Go.SX
