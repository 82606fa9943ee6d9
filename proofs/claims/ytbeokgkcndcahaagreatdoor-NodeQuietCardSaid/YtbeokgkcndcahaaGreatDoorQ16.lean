/-
  files: SyncNames, Off, Size and Read of what is not there, Names, Used.
  files: Write.
  A region whose order is drawn, some of whose acting operations come in any order: one plan for each of these orders.
  files: Sync, Rename.
-/
import Derived.Test.YtbeokgkcndcahaaGreatDoorQ15
import Derived.Test.YtbeokgkcndcahaaGreatDoorQ11
set_option linter.all false
namespace Go.SX
open Go.Proofs
attribute [local irreducible] SX SXo
set_option maxRecDepth 20000
theorem SyncNames_ok (K : Hp) (bd : Nat) (room : Int) (bm : Nat) (st wr : Sl) : TR Tryz.prog K 58 [evPtr bd] [.blk bd 62 (diskCh room bm st wr)]
    fun v r => ∃ st', v = .s (.o (.int .i64 0)) ∧ r = [.blk bd 62 (diskCh room bm st' wr), .vec st' 58 1 encMp [bm]] := by
  refine tr_intro Tryz.func58 rfl rfl rfl fun cx hro hk hret => ?_
  refine sx_seq ?_
  refine sx_region ?_
  refine sxo_pure rfl rfl rfl trivial ?_
  refine sxo_end ?_
  refine sx_seq ?_
  refine sx_seq ?_
  refine sx_region ?_
  refine sxo_pure rfl rfl rfl trivial ?_
  refine sxo_call0 rfl rfl rfl rfl (by (apply Take.cons; focus exact .head); exact .nil) (fun Kc hK hB => meet_ok Kc bd room bm st wr) rfl rfl ?_ (hH := by rintro v m ⟨rfl, rfl⟩; (exact hh_nil))
  rintro v m ⟨rfl, rfl⟩
  simp only [List.cons_append, List.nil_append, List.append_nil, resV]
  refine sxo_pure rfl rfl rfl trivial ?_
  refine sxo_end ?_
  refine sx_seq ?_
  refine sx_region ?_
  refine sxo_pure rfl rfl rfl trivial ?_
  refine sxo_pure rfl rfl rfl trivial ?_
  refine sxo_end ?_
  refine sx_condF rfl ?_
  refine sx_skip ?_
  refine sx_seq ?_
  refine sx_region ?_
  refine sxo_pure rfl rfl rfl trivial ?_
  refine sxo_pure rfl rfl rfl trivial ?_
  refine sxo_pure rfl rfl rfl trivial ?_
  refine sxo_pure rfl rfl rfl trivial ?_
  refine sxo_load rfl rfl rfl (by exact .head) rfl rfl rfl rfl ?_
  refine sxo_buildSlice rfl rfl rfl rfl rfl rfl rfl rfl rfl rfl rfl rfl rfl (fun _ => ?_)
  refine sxo_pure rfl rfl rfl trivial ?_
  refine sxo_pure rfl rfl rfl trivial ?_
  refine sxo_store rfl rfl rfl rfl (by exact .tail .head) rfl rfl rfl rfl rfl ?_
  refine sxo_end ?_
  refine sx_seq ?_
  refine sx_region ?_
  refine sxo_pure rfl rfl rfl trivial ?_
  refine sxo_end ?_
  rename_i b
  refine sx_recast (.vec ⟨some ⟨b, 0, none⟩, 1, 1⟩ 58 1 encMp [bm]) (by exact .tail .head) (fun _ hb => blk_vec hb rfl rfl (fun _ _ => rfl)) ?_
  refine sx_retL hret hro hk (.tmp rfl .nil) ⟨⟨_, _, _⟩, rfl, rfl⟩ (by (apply Take.cons; focus exact .tail .head); (apply Take.cons; focus exact .head); exact .nil)
theorem Off_ok (K : Hp) (bd : Nat) (room : Int) (bm : Nat) (st wr : Sl) : TR Tryz.prog K 48 [evPtr bd] [.blk bd 62 (diskCh room bm st wr)]
    fun v r => v = .s (.o (.bool false)) ∧ r = [.blk bd 62 (diskCh room bm st wr)] := by
  refine tr_intro Tryz.func48 rfl rfl rfl fun cx hro hk hret => ?_
  refine sx_seq ?_
  refine sx_region ?_
  refine sxo_pure rfl rfl rfl trivial ?_
  refine sxo_end ?_
  refine sx_seq ?_
  refine sx_region ?_
  refine sxo_pure rfl rfl rfl trivial ?_
  refine sxo_pure rfl rfl rfl trivial ?_
  refine sxo_pure rfl rfl rfl trivial ?_
  refine sxo_load rfl rfl rfl (by exact .head) rfl rfl rfl rfl ?_
  refine sxo_pure rfl rfl rfl trivial ?_
  refine sxo_end ?_
  refine sx_retL hret hro hk (.tmp rfl .nil) ⟨rfl, rfl⟩ (by (apply Take.cons; focus exact .head); exact .nil)
theorem SizeNo_ok (K : Hp) (bd : Nat) (room : Int) (bm : Nat) (st wr : Sl) (names : List (ByteArray × Option Nat)) (name : ByteArray) (h : mget names name = none) : TR Tryz.prog K 121 [evPtr bd, .o (.string name)] [.blk bd 62 (diskCh room bm st wr), .map bm ekStr evPO names]
    fun v r => v = .t [.o (.int .i64 0), .o (.int .i64 4)] ∧ r = [.blk bd 62 (diskCh room bm st wr), .map bm ekStr evPO names] := by
  refine tr_intro Tryz.func121 rfl rfl rfl fun cx hro hk hret => ?_
  refine sx_seq ?_
  refine sx_region ?_
  refine sxo_pure rfl rfl rfl trivial ?_
  refine sxo_pure rfl rfl rfl trivial ?_
  refine sxo_end ?_
  refine sx_seq ?_
  refine sx_region ?_
  refine sxo_pure rfl rfl rfl trivial ?_
  refine sxo_pure rfl rfl rfl trivial ?_
  refine sxo_pure rfl rfl rfl trivial ?_
  refine sxo_load rfl rfl rfl (by exact .head) rfl rfl rfl rfl ?_
  refine sxo_pure rfl rfl rfl trivial ?_
  refine sxo_lookupOk ekStr _ HasZ.z rfl rfl rfl rfl (by exact .tail .head) rfl rfl (kt_str rfl rfl) rfl rfl rfl rfl rfl ?_
  refine sxo_pure rfl rfl rfl trivial ?_
  refine sxo_pure rfl rfl rfl trivial ?_
  refine sxo_pure rfl rfl rfl trivial ?_
  refine sxo_pure rfl rfl rfl trivial ?_
  refine sxo_pure rfl rfl rfl trivial ?_
  refine sxo_end ?_
  refine sx_seq ?_
  refine sx_seq ?_
  refine sx_region ?_
  refine sxo_pure rfl rfl rfl trivial ?_
  refine sxo_pure rfl rfl rfl trivial ?_
  refine sxo_end ?_
  rw [h]
  refine sx_condT rfl ?_
  refine sx_seq ?_
  refine sx_region ?_
  refine sxo_pure rfl rfl rfl trivial ?_
  refine sxo_pure rfl rfl rfl trivial ?_
  refine sxo_end ?_
  refine sx_retL hret hro hk (.tmp rfl (.tmp rfl .nil)) ⟨rfl, rfl⟩ (by (apply Take.cons; focus exact .head); (apply Take.cons; focus exact .head); exact .nil)
theorem ReadNo_ok (K : Hp) (bd : Nat) (room : Int) (bm : Nat) (st wr : Sl) (names : List (ByteArray × Option Nat)) (name : ByteArray) (a n : Int) (h : mget names name = none) : TR Tryz.prog K 122 [evPtr bd, .o (.string name), .o (.int .i64 a), .o (.int .i64 n)] [.blk bd 62 (diskCh room bm st wr), .map bm ekStr evPO names]
    fun v r => v = .t [.o (.slice none 0 0), .o (.int .i64 4)] ∧ r = [.blk bd 62 (diskCh room bm st wr), .map bm ekStr evPO names] := by
  refine tr_intro Tryz.func122 rfl rfl rfl fun cx hro hk hret => ?_
  refine sx_seq ?_
  refine sx_region ?_
  refine sxo_pure rfl rfl rfl trivial ?_
  refine sxo_pure rfl rfl rfl trivial ?_
  refine sxo_end ?_
  refine sx_seq ?_
  refine sx_seq ?_
  refine sx_region ?_
  refine sxo_pure rfl rfl rfl trivial ?_
  refine sxo_pure rfl rfl rfl trivial ?_
  refine sxo_pure rfl rfl rfl trivial ?_
  refine sxo_load rfl rfl rfl (by exact .head) rfl rfl rfl rfl ?_
  refine sxo_end ?_
  refine sx_condF rfl ?_
  refine sx_skip ?_
  refine sx_seq ?_
  refine sx_region ?_
  refine sxo_pure rfl rfl rfl trivial ?_
  refine sxo_pure rfl rfl rfl trivial ?_
  refine sxo_pure rfl rfl rfl trivial ?_
  refine sxo_load rfl rfl rfl (by exact .head) rfl rfl rfl rfl ?_
  refine sxo_pure rfl rfl rfl trivial ?_
  refine sxo_lookupOk ekStr _ HasZ.z rfl rfl rfl rfl (by exact .tail .head) rfl rfl (kt_str rfl rfl) rfl rfl rfl rfl rfl ?_
  refine sxo_pure rfl rfl rfl trivial ?_
  refine sxo_pure rfl rfl rfl trivial ?_
  refine sxo_pure rfl rfl rfl trivial ?_
  refine sxo_pure rfl rfl rfl trivial ?_
  refine sxo_pure rfl rfl rfl trivial ?_
  refine sxo_end ?_
  refine sx_seq ?_
  refine sx_seq ?_
  refine sx_region ?_
  refine sxo_pure rfl rfl rfl trivial ?_
  refine sxo_pure rfl rfl rfl trivial ?_
  refine sxo_end ?_
  rw [h]
  refine sx_condT rfl ?_
  refine sx_seq ?_
  refine sx_region ?_
  refine sxo_pure rfl rfl rfl trivial ?_
  refine sxo_pure rfl rfl rfl trivial ?_
  refine sxo_end ?_
  refine sx_retL hret hro hk (.tmp rfl (.tmp rfl .nil)) ⟨rfl, rfl⟩ (by (apply Take.cons; focus exact .head); (apply Take.cons; focus exact .head); exact .nil)
theorem Names_ok (K : Hp) (bd : Nat) (room : Int) (bm : Nat) (st wr : Sl) (names : List (ByteArray × Option Nat)) (hn : names.length ≤ 1000) : TR Tryz.prog K 49 [evPtr bd] [.blk bd 62 (diskCh room bm st wr), .map bm ekStr evPO names]
    fun v r => ∃ p n c, ∃ l : List ByteArray, l.Perm (names.map (·.1)) ∧ v = .s (.o (.slice p n c)) ∧ r = [.vec ⟨p, n, c⟩ 9 1 encS l, .blk bd 62 (diskCh room bm st wr), .map bm ekStr evPO names] := by
  refine tr_intro Tryz.func49 rfl rfl rfl fun cx hro hk hret => ?_
  refine sx_seq ?_
  refine sx_region ?_
  refine sxo_pure rfl rfl rfl trivial ?_
  refine sxo_end ?_
  refine sx_seq ?_
  refine sx_region ?_
  refine sxo_pure rfl rfl rfl trivial ?_
  refine sxo_pure rfl rfl rfl trivial ?_
  refine sxo_pure rfl rfl rfl trivial ?_
  refine sxo_load rfl rfl rfl (by exact .head) rfl rfl rfl rfl ?_
  refine sxo_call0 rfl rfl rfl rfl (by exact .nil) (fun Kc hK hB => KeysNames_ok Kc bm) rfl rfl ?_ (hH := by rintro v m ⟨bx, rfl, rfl⟩; (exact hh_nil))
  rintro v m ⟨bx, rfl, rfl⟩
  simp only [List.cons_append, List.nil_append, List.append_nil, resV]
  skip
  refine sxo_call0 rfl rfl rfl rfl (by (apply Take.cons; focus exact .head); (apply Take.cons; focus exact .tail .head); exact .nil) (fun Kc hK hB => SortedStr_ok Kc _ [.o (.pointer (some ⟨bx, 0, none⟩))] _ _ _ (by omega) (fun l hl => by rw [hl.length_eq]; simp; omega) (KeysNames_seq Kc bx bm names)) rfl rfl ?_ (hH := by rintro v m ⟨p, n, c, l, hl, rfl, rfl⟩; (exact hh_nil))
  rintro v m ⟨p, n, c, l, hl, rfl, rfl⟩
  simp only [List.cons_append, List.nil_append, List.append_nil, resV]
  refine sxo_pure rfl rfl rfl trivial ?_
  refine sxo_end ?_
  refine sx_retL hret hro hk (.tmp rfl .nil) ⟨_, _, _, _, (sortS_perm l).trans hl, rfl, rfl⟩ (by (apply Take.cons; focus exact .head); (apply Take.cons; focus exact .tail (.tail .head)); (apply Take.cons; focus exact .tail .head); exact .nil)
theorem Used_ok (K : Hp) (bd : Nat) (room : Int) (bm : Nat) (st wr : Sl) (names : List (ByteArray × Option Nat)) (M : List Ent) (hn : names.length ≤ 200)
    (hf : ∀ x ∈ names, ∃ f s1 s2 r, x.2 = some f ∧ Pick M (.blk f 326 (fileCh s1 s2)) r ∧ s1.n ≤ 1000) : TR Tryz.prog K 277 [evPtr bd] (.blk bd 62 (diskCh room bm st wr) :: .map bm ekStr evPO names :: M)
    fun v r => (∃ n : Int, (0 ≤ n ∧ n ≤ names.length * 1000) ∧ v = .s (.o (.int .i64 n))) ∧ r = .blk bd 62 (diskCh room bm st wr) :: .map bm ekStr evPO names :: M := by
  refine tr_intro Tryz.func277 rfl rfl rfl fun cx hro hk hret => ?_
  refine sx_seq ?_
  refine sx_region ?_
  refine sxo_pure rfl rfl rfl trivial ?_
  refine sxo_end ?_
  refine sx_seq ?_
  refine sx_region ?_
  refine sxo_pure rfl rfl rfl trivial ?_
  refine sxo_end ?_
  refine sx_seq ?_
  refine sx_seq ?_
  refine sx_region ?_
  refine sxo_pure rfl rfl rfl trivial ?_
  refine sxo_pure rfl rfl rfl trivial ?_
  refine sxo_pure rfl rfl rfl trivial ?_
  refine sxo_load rfl rfl rfl (by exact .head) rfl rfl rfl rfl ?_
  refine sxo_range rfl rfl rfl (by exact .tail .head) rfl rfl rfl rfl (fun rb => ?_)
  refine sxo_end ?_
  refine sx_block ?_
  refine sx_less (by refine .cons rfl ?_; refine .cons rfl ?_; exact .nil _) .all (sx_loopI (γ := List Nat × Int) (fun x => Seen names.length x.1 ∧ 0 ≤ x.2 ∧ x.2 ≤ x.1.length * 1000) (fun x => names.length - x.1.length) (fun x => [(10, .s (evPtr rb)), (3, .s (.o (.int .i64 x.2)))])
    (fun x => itE rb bm ekStr evPO names x.1 :: .blk bd 62 (diskCh room bm st wr) :: M) ([], 0) ⟨.nil _, by simp⟩ ?_)
  rintro ⟨seen, n⟩ ⟨hs, hn1, hn2⟩ ih
  simp only at hs hn1 hn2
  refine sx_seq ?_
  refine sx_region ?_
  refine sxo_next rfl rfl rfl .head rfl rfl (fun hall => ?_) (fun j y hjy hjn => ?_)
  · have hlen := nodup_lt hs.1 hs.2
    refine sxo_pure rfl rfl rfl trivial ?_
    refine sxo_end ?_
    refine sx_seq ?_
    refine sx_condF rfl ?_
    refine sx_exit rfl ?_
    refine sx_seq ?_
    refine sx_region ?_
    refine sxo_pure rfl rfl rfl trivial ?_
    refine sxo_pure rfl rfl rfl trivial ?_
    refine sxo_end ?_
    refine sx_recast (.map bm ekStr evPO names) .head itE_map ?_
    refine sx_perm (.swap _ _ _) ?_
    refine sx_ret hret hro hk (.tmp rfl .nil) ⟨⟨n, ⟨hn1, by omega⟩, rfl⟩, rfl⟩
  · obtain ⟨hs2, hlt⟩ := hs.next (List.getElem?_eq_some_iff.1 hjy).1 hjn
    obtain ⟨f, s1, s2, r, e1, e2, e3⟩ := hf y (List.mem_of_getElem? hjy)
    refine sxo_pure rfl rfl rfl trivial ?_
    refine sxo_end ?_
    refine sx_seq ?_
    refine sx_condT rfl ?_
    refine sx_skip ?_
    refine sx_block ?_
    refine sx_seq ?_
    refine sx_region ?_
    refine sxo_entry rfl rfl rfl .head hjy rfl rfl ?_
    rw [e1]
    refine sxo_pure rfl rfl rfl trivial ?_
    refine sxo_pure rfl rfl rfl trivial ?_
    refine sxo_end ?_
    refine sx_region ?_
    refine sxo_pure rfl rfl rfl trivial ?_
    refine sxo_pure rfl rfl rfl trivial ?_
    refine sxo_pure rfl rfl rfl trivial ?_
    refine sxo_pure rfl rfl rfl trivial ?_
    refine sxo_load rfl rfl rfl (.tail (.tail e2)) rfl rfl rfl rfl ?_
    refine sxo_lenV rfl rfl rfl rfl rfl rfl rfl ?_
    refine sxo_pure rfl rfl rfl (by omega) ?_
    refine sxo_pure rfl rfl rfl trivial ?_
    refine sxo_end ?_
    refine sx_inBlock ?_
    refine sx_less (by refine .cons rfl ?_; refine .cons rfl ?_; exact .nil _) .all (ih (seen ++ [j], n + s1.n) ⟨hs2, by simp only; omega, by simp; omega⟩ (by simp; omega))
end Go.SX

namespace Go.SX
open Go.Proofs
attribute [local irreducible] SX SXo
set_option maxRecDepth 20000
theorem wrote_ok (K : Hp) (p : Option Addr) (n c : Nat) (l : List UInt8) (hl : l.length ≤ 1000000) : TR Tryz.prog K 278 [.o (.slice none 0 0), .o (.int .i64 0), .o (.slice p n c)] [.vec ⟨p, n, c⟩ 5 1 encB l]
    fun v r => ∃ p' c', v = .s (.o (.slice p' l.length c')) ∧ r = [.vec ⟨p, n, c⟩ 5 1 encB l] := by
  refine tr_intro Tryz.func278 rfl rfl rfl fun cx hro hk hret => ?_
  refine sx_seq ?_
  refine sx_region ?_
  refine sxo_pure rfl rfl rfl trivial ?_
  refine sxo_end ?_
  refine sx_seq ?_
  refine sx_region ?_
  refine sxo_pure rfl rfl rfl trivial ?_
  refine sxo_lenV rfl rfl rfl rfl rfl rfl rfl ?_
  refine sxo_pure rfl rfl rfl trivial ?_
  refine sxo_pure rfl rfl rfl trivial ?_
  refine sxo_len rfl rfl rfl rfl rfl (by exact Reads.own (by exact .head)) rfl rfl ?_
  refine sxo_pure rfl rfl rfl (by omega) ?_
  refine sxo_max rfl rfl rfl rfl rfl ?_
  have hmx : max ((0 : Nat) : Int) (0 + (l.length : Int)) = l.length := by omega
  rw [hmx]
  refine sxo_makeSlice encB 0 rfl rfl rfl rfl rfl rfl rfl rfl rfl rfl rfl rfl rfl (by simp only; omega) (fun b => ?_)
  simp only [Int.toNat_natCast]
  refine sxo_pure rfl rfl rfl trivial ?_
  refine sxo_end ?_
  refine sx_seq ?_
  refine sx_region ?_
  refine sxo_pure rfl rfl rfl trivial ?_
  refine sxo_pure rfl rfl rfl trivial ?_
  refine sxo_copy (T2 := 0) (lx := []) rfl rfl rfl rfl rfl rfl rfl rfl rfl .head Reads.nil_ (fun _ => rfl) rfl rfl ?_
  simp only [List.length_nil, Nat.zero_min, List.take_zero, List.drop_zero, List.nil_append]
  refine sxo_end ?_
  refine sx_seq ?_
  refine sx_region ?_
  refine sxo_pure rfl rfl rfl trivial ?_
  refine sxo_pure rfl rfl rfl trivial ?_
  refine sxo_slice0 rfl rfl rfl rfl rfl rfl rfl rfl rfl rfl (Reads.own .head) (by simp [hiOf]) ?_
  simp only [hiOf, Int.toNat_natCast, List.length_replicate]
  refine sxo_pure rfl rfl rfl trivial ?_
  refine sxo_copy (l := List.replicate l.length 0) (lx := l) rfl rfl rfl rfl rfl rfl rfl rfl rfl .head (Reads.own .head) (fun _ => rfl) rfl rfl ?_
  refine sxo_end ?_
  refine sx_seq ?_
  refine sx_region ?_
  refine sxo_pure rfl rfl rfl trivial ?_
  refine sxo_pure rfl rfl rfl trivial ?_
  refine sxo_end ?_
  refine sx_retL hret hro hk (.tmp rfl .nil) ⟨_, _, rfl, rfl⟩ (by (apply Take.cons; focus exact .tail .head); exact .nil)
theorem Write_ok (K : Hp) (bd : Nat) (room : Int) (bm : Nat) (st wr : Sl) (wrs : List Late) (names : List (ByteArray × Option Nat)) (name : ByteArray) (f : Nat) (s2 : Sl) (M0 : List Ent) (p : Option Addr) (n c : Nat) (l : List UInt8)
    (hg : goodS name = true) (hroom : 201000 ≤ room) (hw : wrs.length ≤ 1000) (hl : l.length ≤ 1000) (hn : names.length ≤ 200) (hfn : mget names name = some (some f))
    (hf : ∀ x ∈ names, ∃ g s1 s2' r, x.2 = some g ∧ Pick (.blk f 326 (fileCh ⟨none, 0, 0⟩ s2) :: M0) (.blk g 326 (fileCh s1 s2')) r ∧ s1.n ≤ 1000) :
    TR Tryz.prog K 168 [evPtr bd, .o (.string name), .o (.int .i64 0), .o (.slice p n c)]
      (.blk bd 62 (diskCh room bm st wr) :: .map bm ekStr evPO names :: .vec wr 370 3 encLate wrs :: .vec ⟨p, n, c⟩ 5 1 encB l :: .blk f 326 (fileCh ⟨none, 0, 0⟩ s2) :: M0)
    fun v r => ∃ a wr' b, a.n = l.length ∧ v = .s (.o (.int .i64 0)) ∧ r = .blk bd 62 (diskCh room bm st wr') :: .map bm ekStr evPO names :: .vec wr' 370 3 encLate (wrs ++ [⟨some f, 0, b⟩]) :: .vec ⟨p, n, c⟩ 5 1 encB l :: .blk f 326 (fileCh a s2) :: M0 := by
  refine tr_intro Tryz.func168 rfl rfl rfl fun cx hro hk hret => ?_
  refine sx_seq ?_
  refine sx_region ?_
  refine sxo_pure rfl rfl rfl trivial ?_
  refine sxo_end ?_
  refine sx_seq ?_
  refine sx_region ?_
  refine sxo_pure rfl rfl rfl trivial ?_
  refine sxo_pure rfl rfl rfl trivial ?_
  refine sxo_pure rfl rfl rfl trivial ?_
  refine sxo_buildSlice rfl rfl rfl rfl rfl rfl rfl rfl rfl rfl rfl rfl rfl (fun _ => ?_)
  refine sxo_call0 rfl rfl rfl rfl (by (apply Take.cons; focus exact .head); exact .nil) (fun Kc hK hB => filesRight_ok Kc _ [name] (by simpa using hg) (by simp)) rfl rfl ?_ (hH := by rintro v m ⟨rfl, rfl⟩; (exact hh_nil))
  rintro v m ⟨rfl, rfl⟩
  simp only [List.cons_append, List.nil_append, List.append_nil, resV]
  refine sxo_pure rfl rfl rfl trivial ?_
  refine sxo_pure rfl rfl rfl trivial ?_
  refine sxo_pure rfl rfl rfl trivial ?_
  refine sxo_pure rfl rfl rfl trivial ?_
  refine sxo_pure rfl rfl rfl trivial ?_
  refine sxo_pure rfl rfl rfl trivial ?_
  refine sxo_pure rfl rfl rfl trivial ?_
  refine sxo_pure rfl rfl rfl trivial ?_
  refine sxo_pure rfl rfl rfl trivial ?_
  refine sxo_pure rfl rfl rfl trivial ?_
  refine sxo_len rfl rfl rfl rfl rfl (by exact Reads.own (by exact .tail (.tail (.tail (.tail .head))))) rfl rfl ?_
  refine sxo_pure rfl rfl rfl trivial ?_
  refine sxo_pure rfl rfl rfl (by omega) ?_
  refine sxo_pure rfl rfl rfl trivial ?_
  refine sxo_pure rfl rfl rfl trivial ?_
  have hd : decide ((l.length : Int) ≤ 1048576 - 0) = true := by simp; omega
  rw [hd]
  refine sxo_call0 rfl rfl rfl rfl (by (apply Take.cons; focus exact .tail .head); (apply Take.cons; focus exact .tail .head); exact .nil) (fun Kc hK hB => find_ok Kc bd room bm st wr names name f hfn) rfl rfl ?_ (hH := by rintro v m ⟨rfl, rfl⟩; (exact hh_nil))
  rintro v m ⟨rfl, rfl⟩
  simp only [List.cons_append, List.nil_append, List.append_nil, resV]
  refine sxo_pure rfl rfl rfl trivial ?_
  refine sxo_pure rfl rfl rfl trivial ?_
  refine sxo_pure rfl rfl rfl trivial ?_
  refine sxo_pure rfl rfl rfl trivial ?_
  refine sxo_pure rfl rfl rfl trivial ?_
  refine sxo_end ?_
  refine sx_seq ?_
  refine sx_seq ?_
  refine sx_region ?_
  refine sxo_pure rfl rfl rfl trivial ?_
  refine sxo_pure rfl rfl rfl trivial ?_
  refine sxo_end ?_
  refine sx_condF rfl ?_
  refine sx_skip ?_
  refine sx_seq ?_
  refine sx_seq ?_
  refine sx_drawN 4 (by kernel_rfl) [0, 2, 3, 4, 5, 6, 7, 8, 9, 10, 11, 12, 14, 15, 16, 17, 1, 13, 18] [(4, 1), (9, 1), (10, 1), (12, 1), (17, 1)] (by kernel_rfl) ?_
  refine sxo_pure rfl rfl rfl trivial ?_
  refine sxo_pure rfl rfl rfl trivial ?_
  refine sxo_pure rfl rfl rfl trivial ?_
  refine sxo_lenF rfl rfl rfl rfl rfl (by exact Reads.own (by exact .tail (.tail (.tail (.tail .head))))) rfl ?_
  refine sxo_pure rfl rfl rfl (by omega) ?_
  refine sxo_pure rfl rfl rfl trivial ?_
  refine sxo_pure rfl rfl rfl trivial ?_
  refine sxo_pure rfl rfl rfl trivial ?_
  refine sxo_loadF rfl rfl rfl (by exact .tail (.tail (.tail (.tail (.tail .head))))) rfl rfl rfl ?_
  refine sxo_lenVF rfl rfl rfl rfl rfl rfl ?_
  refine sxo_wrap rfl rfl rfl rfl rfl rfl ?_
  refine sxo_max rfl rfl rfl rfl rfl ?_
  refine sxo_pure rfl rfl rfl trivial ?_
  refine sxo_pure rfl rfl rfl trivial ?_
  refine sxo_pure rfl rfl rfl trivial ?_
  refine sxo_loadF rfl rfl rfl (by exact .head) rfl rfl rfl ?_
  have e0 : IntKind.i64.wrap (0 + (l.length : Int) - ((⟨none, 0, 0⟩ : Sl).n : Int)) = l.length := by rw [wrap_i64' (by simp; omega)]; simp
  rw [e0]
  rename_i bx
  refine sxo_call0 rfl rfl rfl rfl (.cons .head (.cons .head .all)) (fun Kc hK hB => Used_ok Kc bd room bm st wr names _ hn (fun x hx => by
    obtain ⟨g, s1, s2', r, a1, a2, a3⟩ := hf x hx
    exact ⟨g, s1, s2', _, a1, .tail (.tail (.tail a2)), a3⟩)) rfl rfl ?_ (hH := by rintro v m ⟨_, rfl⟩; (refine hh_chk ⟨_, _, _, (by exact .head), (by rfl)⟩ ?_; refine hh_chk trivial ?_; refine hh_chk ⟨_, _, _, (by exact .tail (.tail (.tail (.tail (.tail .head))))), (by rfl)⟩ ?_; refine hh_chk trivial ?_; exact hh_nil))
  rintro v m ⟨⟨q, ⟨hq1, hq2⟩, rfl⟩, rfl⟩
  simp only [List.append_nil]
  refine sxo_pure rfl rfl rfl (by omega) ?_
  refine sxo_pure rfl rfl rfl trivial ?_
  refine sxo_end ?_
  refine sx_cond rfl (fun h => ?_) (fun h => ?_)
  · simp at h; omega
  refine sx_skip ?_
  refine sx_seq ?_
  refine sx_region ?_
  refine sxo_pure rfl rfl rfl trivial ?_
  refine sxo_pure rfl rfl rfl trivial ?_
  refine sxo_pure rfl rfl rfl trivial ?_
  refine sxo_pure rfl rfl rfl trivial ?_
  refine sxo_load rfl rfl rfl (by exact .tail (.tail (.tail (.tail (.tail .head))))) rfl rfl rfl rfl ?_
  refine sxo_pure rfl rfl rfl trivial ?_
  refine sxo_pure rfl rfl rfl trivial ?_
  refine sxo_call0 rfl rfl rfl rfl (by (apply Take.cons; focus exact .tail (.tail (.tail (.tail .head)))); exact .nil) (fun Kc hK hB => wrote_ok Kc p n c l (by omega)) rfl rfl ?_ (hH := by rintro v m ⟨p5, c5, rfl, rfl⟩; (exact hh_nil))
  rintro v m ⟨p5, c5, rfl, rfl⟩
  simp only [List.cons_append, List.nil_append, List.append_nil, resV]
  refine sxo_pure rfl rfl rfl trivial ?_
  refine sxo_pure rfl rfl rfl trivial ?_
  refine sxo_store rfl rfl rfl rfl (by exact .tail (.tail (.tail (.tail (.tail .head))))) rfl rfl rfl rfl rfl ?_
  refine sxo_end ?_
  refine sx_seq ?_
  refine sx_drawN 7 (by kernel_rfl) [0, 1, 2, 3, 4, 5, 6, 7, 8, 9, 10, 11, 12, 13, 14] [(4, 8), (4, 10)] (by kernel_rfl) ?_
  refine sxo_pure rfl rfl rfl trivial ?_
  refine sxo_pure rfl rfl rfl trivial ?_
  refine sxo_pure rfl rfl rfl trivial ?_
  refine sxo_pure rfl rfl rfl trivial ?_
  refine sxo_loadF rfl rfl rfl (by exact .tail (.tail .head)) rfl rfl rfl ?_
  refine sxo_pure rfl rfl rfl trivial ?_
  refine sxo_pure rfl rfl rfl trivial ?_
  refine sxo_pure rfl rfl rfl trivial ?_
  refine sxo_call0 rfl rfl rfl rfl .all (fun Kc hK hB => CloneByte_ok Kc _ p n c l (by repeat (first | exact Reads.own .head | refine Reads.skip ?_)) (by omega)) rfl rfl ?_ (hH := by rintro v m ⟨p6, n6, c6, rfl, rfl⟩; (refine hh_chk ⟨_, _, _, (by exact .tail (.tail (.tail .head))), (by rfl)⟩ ?_; exact hh_nil))
  rintro v m ⟨p6, n6, c6, rfl, rfl⟩
  simp only [List.cons_append, List.nil_append, List.append_nil, resV]
  refine sxo_build rfl rfl rfl rfl rfl rfl rfl rfl rfl ?_
  refine sxo_buildSlice rfl rfl rfl rfl rfl rfl rfl rfl rfl rfl rfl rfl rfl (fun _ => ?_)
  refine sxo_append (lx := [(⟨some f, 0, ⟨p6, n6, c6⟩⟩ : Late)]) rfl rfl rfl rfl rfl rfl rfl rfl rfl rfl (by exact .tail (.tail (.tail (.tail (.tail (.tail (.tail .head))))))) (Reads.one (by exact .head) rfl rfl) (fun _ => rfl) rfl rfl rfl (by simp; omega) (fun p7 n7 c7 => ?_)
  refine sxo_pure rfl rfl rfl trivial ?_
  refine sxo_pure rfl rfl rfl trivial ?_
  refine sxo_store rfl rfl rfl rfl (by exact .tail (.tail (.tail (.tail (.tail .head))))) rfl rfl rfl rfl rfl ?_
  refine sxo_end ?_
  refine sx_seq ?_
  refine sx_region ?_
  refine sxo_pure rfl rfl rfl trivial ?_
  refine sxo_end ?_
  refine sx_retL hret hro hk (.tmp rfl .nil) ⟨⟨p5, l.length, c5⟩, ⟨p7, n7, c7⟩, ⟨p6, n6, c6⟩, rfl, rfl, rfl⟩ (.cons .head (.cons (.tail (.tail (.tail (.tail (.tail .head))))) (.cons .head (.cons (.tail (.tail (.tail .head))) (.cons (.tail (.tail .head)) (.skip (.skip (.skip .all))))))))
end Go.SX

namespace Go.SX
/-- In L, a comes ahead of b. -/
def Ahead (a b : Nat) (L : List Nat) : Prop := ∃ A B, L = A ++ a :: B ∧ b ∉ A
section
variable {ops : Array Oper}
theorem Valid.nodup : ∀ {L D : List Nat}, Valid ops D L → L.Nodup ∧ ∀ x ∈ L, x ∉ D
  | [], _, _ => ⟨List.nodup_nil, fun _ h => (List.not_mem_nil h).elim⟩
  | i :: L, D, h => by
    cases h with
    | cons h1 h2 h3 h =>
      obtain ⟨g1, g2⟩ := Valid.nodup h
      refine ⟨List.nodup_cons.2 ⟨fun hi => g2 i hi List.mem_cons_self, g1⟩, fun x hx => ?_⟩
      rcases List.mem_cons.1 hx with rfl | hx
      · exact h2
      · exact fun hd => g2 x hx (List.mem_cons_of_mem _ hd)
theorem Valid.all : ∀ {L D : List Nat}, Valid ops D L → ∀ i, i < ops.size → i ∈ D ∨ i ∈ L
  | [], D, h, i, hi => by cases h with | nil h0 => exact .inl (h0 i hi)
  | j :: L, D, h, i, hi => by
    cases h with
    | cons h1 h2 h3 h =>
      rcases Valid.all h i hi with g | g
      · rcases List.mem_cons.1 g with rfl | g
        · exact .inr List.mem_cons_self
        · exact .inl g
      · exact .inr (List.mem_cons_of_mem _ g)
theorem ahead_or {a b : Nat} {L : List Nat} (hn : L.Nodup) (ha : a ∈ L) : Ahead a b L ∨ Ahead b a L := by
  obtain ⟨A, B, rfl⟩ := List.append_of_mem ha
  by_cases hb : b ∈ A
  · obtain ⟨A1, A2, rfl⟩ := List.append_of_mem hb
    refine .inr ⟨A1, A2 ++ a :: B, by simp, fun h => ?_⟩
    have := (List.nodup_append.1 hn).2.2 a (List.mem_append.2 (.inl h)) a List.mem_cons_self
    exact this rfl
  · exact .inl ⟨A, B, rfl, hb⟩
/-- What must come before number i, some pairs beside. -/
def depsX (ops : Array Oper) (X : List (Nat × Nat)) (i : Nat) : List Nat := depsI ops i ++ X.filterMap fun p => match Nat.beq p.2 i with
  | true => some p.1
  | false => none
inductive ValidX (ops : Array Oper) (X : List (Nat × Nat)) : List Nat → List Nat → Prop where
  | nil {D : List Nat} (h : ∀ i, i < ops.size → i ∈ D) : ValidX ops X D []
  | cons {D L : List Nat} {i : Nat} (h1 : i < ops.size) (h2 : i ∉ D) (h3 : ∀ e ∈ depsX ops X i, e ∈ D) (h : ValidX ops X (i :: D) L) : ValidX ops X D (i :: L)
theorem validX {X : List (Nat × Nat)} (hne : ∀ p ∈ X, p.1 ≠ p.2) : ∀ {L D : List Nat}, Valid ops D L → (∀ p ∈ X, p.1 ∈ D ∨ Ahead p.1 p.2 L) → ValidX ops X D L
  | [], _, h, _ => by cases h with | nil h0 => exact .nil h0
  | i :: L, D, h, hX => by
    cases h with
    | cons h1 h2 h3 h =>
      refine .cons h1 h2 (fun e he => ?_) (validX hne h fun p hp => ?_)
      · rcases List.mem_append.1 he with he | he
        · exact h3 e he
        · obtain ⟨p, hp, hpe⟩ := List.mem_filterMap.1 he
          split at hpe
          · rename_i hb
            cases hpe
            have hpi := Nat.eq_of_beq_eq_true hb
            rcases hX p hp with g | ⟨A, B, e1, e2⟩
            · exact g
            · cases A with
              | nil =>
                simp at e1
                exact absurd (e1.1.symm.trans hpi.symm) (hne p hp)
              | cons x A =>
                simp at e1
                exact absurd (by rw [hpi, ← e1.1]; exact List.mem_cons_self) e2
          · cases hpe
      · rcases hX p hp with g | ⟨A, B, e1, e2⟩
        · exact .inl (List.mem_cons_of_mem _ g)
        · cases A with
          | nil => simp at e1; exact .inl (by rw [e1.1]; exact List.mem_cons_self)
          | cons x A =>
            simp at e1
            exact .inr ⟨A, B, e1.2, fun h => e2 (List.mem_cons_of_mem _ h)⟩
def masksX (ops : Array Oper) (X : List (Nat × Nat)) (m : List Nat) : Bool :=
  (List.range ops.size).all fun k => (List.range ops.size).all fun i => !bit m k i || (depsX ops X k).any fun e => Nat.beq e i || bit m e i
theorem masksX_done {X : List (Nat × Nat)} {m : List Nat} (hm : masksX ops X m = true) {D : List Nat} (hD : ∀ k ∈ D, k < ops.size ∧ ∀ i, i < ops.size → bit m k i = true → i ∈ D) {k : Nat} (hk : k < ops.size) (hr : ∀ e ∈ depsX ops X k, e ∈ D) :
    ∀ i, i < ops.size → bit m k i = true → i ∈ D := by
  intro i hi hb
  have h1 := List.all_eq_true.1 (List.all_eq_true.1 hm k (List.mem_range.2 hk)) i (List.mem_range.2 hi)
  rw [hb] at h1
  simp only [Bool.not_true, Bool.false_or, List.any_eq_true, Bool.or_eq_true] at h1
  obtain ⟨e, he, h | h⟩ := h1
  · rw [← Nat.eq_of_beq_eq_true h]; exact hr e he
  · exact (hD e (hr e he)).2 i hi h
variable {P : Program} {lt : Nat → Bool} {fr : Nat → Nat → Bool} {Q : Act → World → Prop}
theorem wpL_of_planX {X : List (Nat × Nat)} {m : List Nat} (hm : masksX ops X m = true) : ∀ {L D S : List Nat} {H : Held} {a : Act} {w : World}, ValidX ops X D L → (∀ k ∈ D, k < ops.size ∧ ∀ i, i < ops.size → bit m k i = true → i ∈ D) →
    (∀ i, i < ops.size → (i ∈ S ↔ i ∉ D)) → (∀ i ∈ S, i < ops.size) → S.Nodup → pairsOk ops m lt fr S = true → wpH P ops lt fr Q H S a w → wpL P ops Q L a w
  | [], D, S, H, a, w, hv, hD, hS, hlt, hn, hp, h => by
    cases hv with
    | nil h0 =>
      have : S = [] := by
        cases S with
        | nil => rfl
        | cons x S => exact absurd (h0 x (hlt x List.mem_cons_self)) ((hS x (hlt x List.mem_cons_self)).1 List.mem_cons_self)
      subst this
      exact h
  | i :: L, D, S, H, a, w, hv, hD, hS, hlt, hn, hp, h => by
    cases hv with
    | cons h1 h2 h3 hv =>
      have hiS : i ∈ S := (hS i h1).2 h2
      obtain ⟨A, B, rfl⟩ := List.append_of_mem hiS
      obtain ⟨g1, g2⟩ := pairsOk_mid hp
      have hdone := masksX_done hm hD h1 h3
      have hA : ∀ k ∈ A, lt k = true ∧ apartI ops k i = true ∧ (lt i = true ∨ fr k i = true) := by
        intro k hk
        have := g1 k hk
        unfold pairOk at this
        simp only [Bool.or_eq_true, Bool.and_eq_true] at this
        rcases this with hb | ⟨⟨x1, x2⟩, x3⟩
        · have hkS : k ∈ A ++ i :: B := List.mem_append.2 (.inl hk)
          exact absurd (hdone k (hlt k hkS) hb) ((hS k (hlt k hkS)).1 hkS)
        · exact ⟨x1, x2, x3⟩
      have hst := stp_opW (wpH_pull hA h)
      have hnd : (A ++ B).Nodup ∧ i ∉ A ++ B := by
        have := (List.perm_middle (a := i) (l₁ := A) (l₂ := B)).nodup_iff.1 hn
        exact ⟨(List.nodup_cons.1 this).2, (List.nodup_cons.1 this).1⟩
      refine hst.mono fun a' w' ⟨H', n⟩ => wpL_of_planX hm hv ?_ ?_ ?_ hnd.1 g2 n
      · intro k hk
        rcases List.mem_cons.1 hk with rfl | hk
        · exact ⟨h1, fun j hj hb => List.mem_cons_of_mem _ (hdone j hj hb)⟩
        · exact ⟨(hD k hk).1, fun j hj hb => List.mem_cons_of_mem _ ((hD k hk).2 j hj hb)⟩
      · intro j hj
        constructor
        · intro hjm hjd
          rcases List.mem_cons.1 hjd with rfl | hjd
          · exact hnd.2 hjm
          · refine (hS j hj).1 ?_ hjd
            simp only [List.mem_append, List.mem_cons] at hjm ⊢
            rcases hjm with h | h
            · exact .inl h
            · exact .inr (.inr h)
        · intro hjd
          have : j ∈ A ++ i :: B := (hS j hj).2 fun h => hjd (List.mem_cons_of_mem _ h)
          simp only [List.mem_append, List.mem_cons] at this ⊢
          rcases this with h | rfl | h
          · exact .inl h
          · exact absurd List.mem_cons_self hjd
          · exact .inr h
      · intro j hj
        refine hlt j ?_
        simp only [List.mem_append, List.mem_cons] at hj ⊢
        rcases hj with h | h
        · exact .inl h
        · exact .inr (.inr h)
end
/-- Masks, reckoned round by round. -/
def stepM (ops : Array Oper) (X : List (Nat × Nat)) (m : List Nat) : List Nat := (List.range ops.size).map fun k => (depsX ops X k).foldl (fun x e => x ||| 2 ^ e ||| m.getD e 0) 0
def roundsM (ops : Array Oper) (X : List (Nat × Nat)) : Nat → List Nat → List Nat
  | 0, m => m
  | n + 1, m => roundsM ops X n (stepM ops X m)
def planX (P : Program) [Tab P] (l : List Oper) (X : List (Nat × Nat)) (p : List Nat) (flo : List (Nat × Nat)) : Bool :=
  let ops := l.toArray
  let m := roundsM ops X l.length []
  let r : Rg := ⟨l, true, flo⟩
  isPerm l.length p && X.all (fun q => !Nat.beq q.1 q.2) && masksX ops X m && pairsOk ops m (r.lt P) (r.fr P) p
section
variable {P : Program} [Tab P] {N : Nat} {cx : Cx P N} {K : Hp} {ds : List Deferred} {k : List Item} {env : Env} {mem : List Ent}
/-- All orders of a region that keep some pairs come to where they should. -/
def Good (cx : Cx P N) (K : Hp) (ds : List Deferred) (l : List Oper) (X : List (Nat × Nat)) (k : List Item) (env : Env) (mem : List Ent) : Prop :=
  ∀ a w, St cx K ds env mem a w → ∀ L, Valid l.toArray [] L → (∀ p ∈ X, Ahead p.1 p.2 L) → wpL P l.toArray (fun a' w' => cx.T (lone (cx.b.atR a' k) cx.cs w')) L a w
theorem good_plan {l : List Oper} {X : List (Nat × Nat)} (p : List Nat) (flo : List (Nat × Nat)) (hp : planX P l X p flo = true) (h : SXo cx K ds ⟨l, true, flo⟩ [] (planR l p) k env mem) : Good cx K ds l X k env mem := fun a w s L hL hX => by
  simp only [planX, Bool.and_eq_true] at hp
  obtain ⟨⟨⟨h1, h2⟩, h3⟩, h4⟩ := hp
  obtain ⟨hn, hmem⟩ := isPerm_spec h1
  have hne : ∀ q ∈ X, q.1 ≠ q.2 := fun q hq e => by
    have := List.all_eq_true.1 h2 q hq
    rw [e] at this; simp at this
  have hw := h (fun x hx => by simpa using planR_mem l p x hx) a w [] s (fun x hx => by cases hx)
  rw [planR_map l p fun i hi => (hmem i).1 hi] at hw
  exact wpL_of_planX h3 (validX hne hL fun q hq => .inr (hX q hq)) (fun k hk => by cases hk) (fun i hi => by simp at hi; simp [hmem i, hi]) (fun i hi => by simpa using (hmem i).1 hi) hn h4 hw
/-- Either way round. -/
theorem good_split {l : List Oper} {X : List (Nat × Nat)} (i j : Nat) (hi : Nat.blt i l.length = true) (h1 : Good cx K ds l ((i, j) :: X) k env mem) (h2 : Good cx K ds l ((j, i) :: X) k env mem) : Good cx K ds l X k env mem := fun a w s L hL hX => by
  have hi' : i < l.length := by simpa using hi
  have hiL : i ∈ L := (hL.all i (by simpa using hi')).resolve_left List.not_mem_nil
  rcases ahead_or (b := j) hL.nodup.1 hiL with g | g
  · exact h1 a w s L hL fun p hp => by
      rcases List.mem_cons.1 hp with rfl | hp
      · exact g
      · exact hX p hp
  · exact h2 a w s L hL fun p hp => by
      rcases List.mem_cons.1 hp with rfl | hp
      · exact g
      · exact hX p hp
/-- **A DRAWN REGION, ORDER BY ORDER.** -/
theorem sx_drawT (id : Nat) {l : List Oper} (hmx : P.follows .mixedOrders = true) (hb : backOk l.toArray = true) (h : Good cx K ds l [] k env mem) : SX cx K ds (.code (.region id l.toArray true) :: k) env mem := fun a w s => by
  have s' : St cx K ds env mem a { w with drawn := w.drawn + 1 } := ⟨s.ds, s.size, s.env, s.mem, s.os, s.out⟩
  have hL := h a _ s' _ (linearise_valid hb (w.tape w.drawn (.order cx.b.fn id))) (fun p hp => by cases hp)
  obtain ⟨a', w', hs, ht⟩ := wpL_steps hL cx.b k cx.cs
  refine cx.back _ _ (.head stepR_region_draw ?_) ht
  simp only [Region.schedule, hmx, Bool.true_or, if_true]
  exact hs
/-- What comes next is shown once. -/
theorem sx_join {γ : Type} {c : Item} (E : γ → Env) (M : γ → List Ent) (h1 : (∀ x, SX cx K ds k (E x) (M x)) → SX cx K ds (c :: k) env mem) (h2 : ∀ x, SX cx K ds k (E x) (M x)) : SX cx K ds (c :: k) env mem := h1 h2
end
end Go.SX

namespace Go.SX
open Go.Proofs
attribute [local irreducible] SX SXo
set_option maxRecDepth 20000
theorem Pick.perm {m r : List Ent} {e : Ent} (p : Pick m e r) : (e :: r).Perm m := by
  induction p with
  | head => exact .refl _
  | tail _ ih => exact (List.Perm.swap _ _ _).trans (.cons _ ih)
theorem Take.perm {m M r : List Ent} (t : Take m M r) : (M ++ r).Perm m := by
  induction t with
  | nil => exact .refl _
  | cons p _ ih => exact (List.Perm.cons _ ih).trans p.perm
theorem TRV.frame {P : Program} {K : Hp} {Y : Value} {args : List SV1} {mem M r : List Ent} {A : SV → Prop} (t : Take mem M r) (h : ∀ Kc, TRV P Kc Y args M fun v m => A v ∧ m = M) : TRV P K Y args mem fun v m => A v ∧ m = mem := fun w hm => by
  obtain ⟨h0, d, s1, s2, o⟩ := hm
  obtain ⟨h1, h2, dd, t1, t2, o1, o2⟩ := OSat.take t o
  have dK2 : Dj K h2 := d.mono (Sub.refl _) t2
  have hdj : Dj (un K h2) h1 := Dj.un_left (d.mono (Sub.refl _) t1) dd.symm
  refine (h (un K h2) w ⟨h1, hdj, un_sub s1 (t2.trans s2), t1.trans s2, o1⟩).mono ?_
  rintro u w' ⟨v, m, e, ⟨ha, rfl⟩, ⟨g, dg, sg, sg2, og⟩, ho⟩
  have dKg : Dj K g := dg.mono (sub_un_left _ _) (Sub.refl _)
  have d2g : Dj h2 g := dg.mono (sub_un_right dK2) (Sub.refl _)
  refine ⟨v, mem, e, ⟨ha, rfl⟩, MSat.perm t.perm ⟨un g h2, Dj.un_right dKg dK2, (sub_un_left _ _).trans sg, un_sub sg2 ((sub_un_right dK2).trans sg), OSat.append d2g.symm (sub_un_left _ _) (sub_un_right d2g.symm) og o2⟩, ho⟩
theorem vec_cut0 {α : Type} {p : Option Addr} {n c wd : Nat} {T : TypeId} {enc : α → List Ch} {l : List α} {h : Hp} (v : VecAt ⟨p, n, c⟩ T wd enc l h) : VecAt ⟨p, 0, c⟩ T wd enc ([] : List α) h := by
  rcases v with ⟨h1, h2, h3, h4⟩ | ⟨b, o, cs, h1, h2, h3, h4, h5, _, _⟩
  · exact .inl ⟨h1, rfl, h3, rfl⟩
  · exact .inr ⟨b, o, cs, h1, rfl, Nat.zero_le _, h4, h5, fun x hx => (List.not_mem_nil hx).elim, fun i x hx => by simp at hx⟩
theorem Sync1_ok (K : Hp) (w : Late) (bx f : Nat) (h : w.file = some f) : TR Tryz.prog K 321 [evLate w, evPtr bx] [.blk bx 221 [.c (.pointer (some ⟨f, 0, none⟩))]]
    fun v r => v = .s (.o (.bool true)) ∧ r = [.blk bx 221 [.c (.pointer (some ⟨f, 0, none⟩))]] := by
  obtain ⟨fl, at_, b⟩ := w
  simp only at h
  subst h
  refine tr_intro Tryz.func321 rfl rfl rfl fun cx hro hk hret => ?_
  refine sx_seq ?_
  refine sx_region ?_
  refine sxo_box rfl rfl rfl rfl rfl rfl (fun _ => ?_)
  refine sxo_pure rfl rfl rfl trivial ?_
  refine sxo_end ?_
  refine sx_seq ?_
  refine sx_region ?_
  refine sxo_pure rfl rfl rfl trivial ?_
  refine sxo_load rfl rfl rfl (by exact .head) rfl rfl rfl rfl ?_
  refine sxo_load rfl rfl rfl (by exact .tail .head) rfl rfl rfl rfl ?_
  refine sxo_eqPtrB rfl rfl rfl rfl rfl rfl rfl rfl rfl ?_
  refine sxo_pure rfl rfl rfl trivial ?_
  refine sxo_end ?_
  refine sx_retL hret hro hk (.tmp rfl .nil) ⟨rfl, rfl⟩ (by (apply Take.cons; focus exact .tail .head); exact .nil)
theorem DelLate_ok (K : Hp) (wr : Sl) (w : Late) (bx f : Nat) (h : w.file = some f) : TR Tryz.prog K 320 [.o wr.v, .o (.func (.func 321) #[] #[.pointer (some ⟨bx, 0, none⟩)])] [.vec wr 370 3 encLate [w], .blk bx 221 [.c (.pointer (some ⟨f, 0, none⟩))]]
    fun v r => v = .s (.o (.slice wr.p 0 wr.c)) ∧ r = [.vec ⟨wr.p, 0, wr.c⟩ 370 3 encLate [], .blk bx 221 [.c (.pointer (some ⟨f, 0, none⟩))]] := by
  have hL : ∀ Kd, Looks Tryz.prog Kd (.func (.func 321) #[] #[.pointer (some ⟨bx, 0, none⟩)]) evLate [w] [.vec wr 370 3 encLate [w], .blk bx 221 [.c (.pointer (some ⟨f, 0, none⟩))]] (fun _ => true) := by
    intro Kd
    refine ⟨fun Kc _ x hx => ?_⟩
    have hx' : x = w := by simpa using hx
    subst hx'
    refine TRV.frame (M := [.blk bx 221 [.c (.pointer (some ⟨f, 0, none⟩))]]) (by (apply Take.cons; focus exact .tail .head); exact .nil) (fun Kf => ?_)
    exact TR.val (Sync1_ok Kf x bx f h) rfl
  obtain ⟨p, n, c⟩ := wr
  refine tr_intro Tryz.func320 rfl rfl rfl fun cx hro hk hret => ?_
  refine sx_fact (Q := n = 1) (fun w hm => by simpa using hm.vec.len) (fun hn1 => ?_)
  subst hn1
  refine sx_seq ?_
  refine sx_region ?_
  refine sxo_pure rfl rfl rfl trivial ?_
  refine sxo_end ?_
  refine sx_seq ?_
  refine sx_region ?_
  refine sxo_pure rfl rfl rfl trivial ?_
  refine sxo_pure rfl rfl rfl trivial ?_
  refine sxo_call0 rfl rfl rfl rfl .all (fun Kc hK hB => IdxLate_ok Kc _ p 1 c [w] _ (fun _ => true) (Reads.own .head) (by simp) (hL Kc)) rfl rfl ?_ (hH := by rintro v m ⟨⟨j, rfl, hj⟩, rfl⟩; (exact hh_nil))
  rintro v m ⟨⟨j, rfl, hj⟩, rfl⟩
  simp only [List.cons_append, List.nil_append, List.append_nil, resV]
  have hj' : j = 0 := by
    rcases hj with ⟨_, h⟩ | ⟨h1, h2, _⟩
    · simp at h
    · simp at h2; omega
  subst hj'
  refine sxo_pure rfl rfl rfl trivial ?_
  refine sxo_end ?_
  refine sx_seq ?_
  refine sx_seq ?_
  refine sx_region ?_
  refine sxo_pure rfl rfl rfl trivial ?_
  refine sxo_pure rfl rfl rfl trivial ?_
  refine sxo_end ?_
  refine sx_condF rfl ?_
  refine sx_skip ?_
  refine sx_seq ?_
  refine sx_seq ?_
  refine sx_region ?_
  refine sxo_pure rfl rfl rfl trivial ?_
  refine sxo_pure rfl rfl rfl (by omega) ?_
  refine sxo_pure rfl rfl rfl trivial ?_
  refine sxo_end ?_
  refine sx_block ?_
  refine sx_less (by refine .cons rfl ?_; refine .cons rfl ?_; refine .cons rfl ?_; exact .nil _) (by (apply Take.cons; focus exact .head); (apply Take.cons; focus exact .head); exact .nil) (sx_loopI (γ := Unit) (fun _ => True) (fun _ => 0) (fun _ => [(0, .s (.o (.slice p 1 c))), (5, .s (.o (.int .i64 0))), (6, .s (.o (.int .i64 1)))]) (fun _ => [.vec ⟨p, 1, c⟩ 370 3 encLate [w], .blk bx 221 [.c (.pointer (some ⟨f, 0, none⟩))]]) (()) (trivial) ?_)
  rintro _ _ _
  refine sx_seq ?_
  refine sx_seq ?_
  refine sx_region ?_
  refine sxo_pure rfl rfl rfl trivial ?_
  refine sxo_pure rfl rfl rfl trivial ?_
  refine sxo_len rfl rfl rfl rfl rfl (by exact Reads.own (by exact .head)) rfl rfl ?_
  refine sxo_pure rfl rfl rfl trivial ?_
  refine sxo_end ?_
  refine sx_condF rfl ?_
  refine sx_exit rfl ?_
  refine sx_seq ?_
  refine sx_region ?_
  refine sxo_pure rfl rfl rfl trivial ?_
  refine sxo_pure rfl rfl rfl trivial ?_
  refine sxo_slice0 rfl rfl rfl rfl rfl rfl rfl rfl rfl rfl (Reads.own .head) (by simp [hiOf]) ?_
  simp only [hiOf, Int.toNat_natCast, List.length_singleton]
  skip
  refine sxo_clear (⟨none, 0, ⟨none, 0, 0⟩⟩ : Late) rfl rfl rfl rfl rfl rfl rfl rfl rfl rfl rfl .head rfl rfl ?_
  simp only [List.length_singleton]
  refine sxo_end ?_
  refine sx_seq ?_
  refine sx_region ?_
  refine sxo_pure rfl rfl rfl trivial ?_
  refine sxo_pure rfl rfl rfl trivial ?_
  refine sxo_slice0 rfl rfl rfl rfl rfl rfl rfl rfl rfl rfl (Reads.own .head) (by simp [hiOf]) ?_
  simp only [hiOf, Int.toNat_zero]
  refine sxo_recast (.vec ⟨p, 0, c⟩ 370 3 encLate []) .head (fun _ hb => vec_cut0 hb) ?_
  refine sxo_pure rfl rfl rfl trivial ?_
  refine sxo_end ?_
  refine sx_retL hret hro hk (.tmp rfl .nil) ⟨rfl, rfl⟩ (by (apply Take.cons; focus exact .head); (apply Take.cons; focus exact .head); exact .nil)
theorem Sync_ok (K : Hp) (bd : Nat) (room : Int) (bm : Nat) (st wr : Sl) (w : Late) (names : List (ByteArray × Option Nat)) (name : ByteArray) (f : Nat) (a s2 : Sl) (hg : goodS name = true) (hfn : mget names name = some (some f)) (hw : w.file = some f) :
    TR Tryz.prog K 230 [evPtr bd, .o (.string name)] [.blk bd 62 (diskCh room bm st wr), .map bm ekStr evPO names, .vec wr 370 3 encLate [w], .blk f 326 (fileCh a s2)]
    fun v r => v = .s (.o (.int .i64 0)) ∧ r = [.blk bd 62 (diskCh room bm st ⟨wr.p, 0, wr.c⟩), .map bm ekStr evPO names, .vec ⟨wr.p, 0, wr.c⟩ 370 3 encLate [], .blk f 326 (fileCh a a)] := by
  refine tr_intro Tryz.func230 rfl rfl rfl fun cx hro hk hret => ?_
  refine sx_seq ?_
  refine sx_region ?_
  refine sxo_pure rfl rfl rfl trivial ?_
  refine sxo_end ?_
  refine sx_seq ?_
  refine sx_region ?_
  refine sxo_pure rfl rfl rfl trivial ?_
  refine sxo_pure rfl rfl rfl trivial ?_
  refine sxo_pure rfl rfl rfl trivial ?_
  refine sxo_buildSlice rfl rfl rfl rfl rfl rfl rfl rfl rfl rfl rfl rfl rfl (fun _ => ?_)
  refine sxo_call0 rfl rfl rfl rfl (by (apply Take.cons; focus exact .head); exact .nil) (fun Kc hK hB => filesRight_ok Kc _ [name] (by simpa using hg) (by simp)) rfl rfl ?_ (hH := by rintro v m ⟨rfl, rfl⟩; (exact hh_nil))
  rintro v m ⟨rfl, rfl⟩
  simp only [List.cons_append, List.nil_append, List.append_nil, resV]
  skip
  refine sxo_call0 rfl rfl rfl rfl (by (apply Take.cons; focus exact .tail .head); (apply Take.cons; focus exact .tail .head); exact .nil) (fun Kc hK hB => find_ok Kc bd room bm st wr names name f hfn) rfl rfl ?_ (hH := by rintro v m ⟨rfl, rfl⟩; (exact hh_nil))
  rintro v m ⟨rfl, rfl⟩
  simp only [List.cons_append, List.nil_append, List.append_nil, resV]
  refine sxo_pure rfl rfl rfl trivial ?_
  refine sxo_pure rfl rfl rfl trivial ?_
  refine sxo_pure rfl rfl rfl trivial ?_
  refine sxo_alloc rfl rfl rfl rfl rfl rfl (fun _ => ?_)
  refine sxo_store rfl rfl rfl rfl (by exact .head) rfl rfl rfl rfl rfl ?_
  refine sxo_pure rfl rfl rfl trivial ?_
  refine sxo_end ?_
  refine sx_seq ?_
  refine sx_seq ?_
  refine sx_region ?_
  refine sxo_pure rfl rfl rfl trivial ?_
  refine sxo_pure rfl rfl rfl trivial ?_
  refine sxo_end ?_
  refine sx_condF rfl ?_
  refine sx_skip ?_
  refine sx_seq ?_
  refine sx_drawN 4 (by kernel_rfl) [0, 1, 2, 3, 4, 5, 6, 7] [] (by kernel_rfl) ?_
  refine sxo_load rfl rfl rfl (by exact .head) rfl rfl rfl rfl ?_
  refine sxo_load rfl rfl rfl (by exact .head) rfl rfl rfl rfl ?_
  refine sxo_pure rfl rfl rfl trivial ?_
  refine sxo_pure rfl rfl rfl trivial ?_
  refine sxo_load rfl rfl rfl (by exact .tail (.tail (.tail (.tail (.tail .head))))) rfl rfl rfl rfl ?_
  refine sxo_pure rfl rfl rfl trivial ?_
  refine sxo_pure rfl rfl rfl trivial ?_
  refine sxo_store rfl rfl rfl rfl (by exact .tail (.tail (.tail (.tail (.tail .head))))) rfl rfl rfl rfl rfl ?_
  refine sxo_end ?_
  refine sx_seq ?_
  refine sx_region ?_
  refine sxo_pure rfl rfl rfl trivial ?_
  refine sxo_pure rfl rfl rfl trivial ?_
  refine sxo_pure rfl rfl rfl trivial ?_
  refine sxo_pure rfl rfl rfl trivial ?_
  refine sxo_load rfl rfl rfl (by exact .tail (.tail .head)) rfl rfl rfl rfl ?_
  refine sxo_pure rfl rfl rfl trivial ?_
  rename_i bx
  refine sxo_call0 rfl rfl rfl rfl (by (apply Take.cons; focus exact .tail (.tail (.tail (.tail (.tail .head))))); (apply Take.cons; focus exact .tail .head); exact .nil) (fun Kc hK hB => DelLate_ok Kc wr w bx f hw) rfl rfl ?_ (hH := by rintro v m ⟨rfl, rfl⟩; (exact hh_nil))
  rintro v m ⟨rfl, rfl⟩
  simp only [List.cons_append, List.nil_append, List.append_nil, resV]
  refine sxo_pure rfl rfl rfl trivial ?_
  refine sxo_pure rfl rfl rfl trivial ?_
  refine sxo_store rfl rfl rfl rfl (by exact .tail (.tail (.tail .head))) rfl rfl rfl rfl rfl ?_
  refine sxo_end ?_
  refine sx_seq ?_
  refine sx_region ?_
  refine sxo_pure rfl rfl rfl trivial ?_
  refine sxo_end ?_
  refine sx_retL hret hro hk (.tmp rfl .nil) ⟨rfl, rfl⟩ (by (apply Take.cons; focus exact .head); (apply Take.cons; focus exact .tail (.tail (.tail .head))); (apply Take.cons; focus exact .head); (apply Take.cons; focus exact .tail .head); exact .nil)
theorem Rename1_ok (K : Hp) (b' bo bf bn f : Nat) (names : List (ByteArray × Option Nat)) (old name : ByteArray) : TR Tryz.prog K 322 [.o (.map (some b')), evPtr bo, evPtr bf, evPtr bn] [.map b' ekStr evPO names, .blk bo 9 [.c (.string old)], .blk bf 221 [.c (.pointer (some ⟨f, 0, none⟩))], .blk bn 9 [.c (.string name)]]
    fun _ r => r = [.map b' ekStr evPO (mput (mdel names old) name (some f)), .blk bo 9 [.c (.string old)], .blk bf 221 [.c (.pointer (some ⟨f, 0, none⟩))], .blk bn 9 [.c (.string name)]] := by
  refine tr_intro Tryz.func322 rfl rfl rfl fun cx hro hk hret => ?_
  refine sx_seq ?_
  refine sx_region ?_
  refine sxo_pure rfl rfl rfl trivial ?_
  refine sxo_load rfl rfl rfl (by exact .tail .head) rfl rfl rfl rfl ?_
  refine sxo_delete ekStr rfl rfl rfl rfl (by exact .head) rfl rfl (kt_str rfl rfl) rfl rfl ?_
  refine sxo_end ?_
  refine sx_region ?_
  refine sxo_pure rfl rfl rfl trivial ?_
  refine sxo_load rfl rfl rfl (by exact .tail (.tail (.tail .head))) rfl rfl rfl rfl ?_
  refine sxo_load rfl rfl rfl (by exact .tail (.tail .head)) rfl rfl rfl rfl ?_
  refine sxo_update ekStr _ (v := some f) (.inl rfl) rfl rfl rfl rfl (by exact .head) rfl rfl (kt_str rfl rfl) rfl rfl ?_
  refine sxo_end ?_
  refine sx_endL hret hro hk .nil rfl (by (apply Take.cons; focus exact .head); (apply Take.cons; focus exact .head); (apply Take.cons; focus exact .head); (apply Take.cons; focus exact .head); exact .nil)
theorem Rename_ok (K : Hp) (bd : Nat) (room : Int) (bm : Nat) (st wr : Sl) (sts : List Nat) (names : List (ByteArray × Option Nat)) (old name : ByteArray) (f : Nat) (hg1 : goodS old = true) (hg2 : goodS name = true) (hs : sts.length ≤ 1000) (hfn : mget names old = some (some f)) :
    TR Tryz.prog K 232 [evPtr bd, .o (.string old), .o (.string name)] [.blk bd 62 (diskCh room bm st wr), .map bm ekStr evPO names, .vec st 58 1 encMp sts]
    fun v r => ∃ b' st' sts', v = .s (.o (.int .i64 0)) ∧ sts'.length = sts.length + 1 ∧ r = [.blk bd 62 (diskCh room b' st' wr), .map b' ekStr evPO (mput (mdel names old) name (some f)), .vec st' 58 1 encMp sts'] := by
  refine tr_intro Tryz.func232 rfl rfl rfl fun cx hro hk hret => ?_
  refine sx_seq ?_
  refine sx_region ?_
  refine sxo_box rfl rfl rfl rfl rfl rfl (fun _ => ?_)
  refine sxo_box rfl rfl rfl rfl rfl rfl (fun _ => ?_)
  refine sxo_pure rfl rfl rfl trivial ?_
  refine sxo_end ?_
  refine sx_seq ?_
  refine sx_join (γ := Nat × Nat × Nat) (fun x => [(0, .s (evPtr bd)), (4, .s (evPtr x.1)), (5, .s (evPtr x.2.1)), (7, .s (evPtr x.2.2)), (8, .s (.o (.int .i64 0)))]) (fun x => [.blk x.1 9 [.c (.string old)], .blk x.2.1 9 [.c (.string name)], .blk x.2.2 221 [.c (.pointer (some ⟨f, 0, none⟩))], .blk bd 62 (diskCh room bm st wr), .map bm ekStr evPO names, .vec st 58 1 encMp sts]) (fun J => ?_) (fun x => ?_)
  ·
    refine sx_drawT 1 (by kernel_rfl) (by kernel_rfl) (good_split 4 10 rfl (good_split 5 10 rfl (good_split 6 10 rfl (good_plan [0, 1, 2, 3, 4, 5, 6, 7, 8, 9, 10, 11, 12] [(1, 4), (1, 5)] (by kernel_rfl) ?_) (good_plan [0, 1, 2, 3, 4, 5, 10, 6, 7, 8, 9, 11, 12] [(1, 4), (1, 5), (1, 10)] (by kernel_rfl) ?_)) (good_plan [0, 1, 2, 3, 4, 10, 5, 6, 7, 8, 9, 11, 12] [(1, 4), (1, 5), (1, 10)] (by kernel_rfl) ?_)) (good_plan [0, 1, 2, 3, 10, 4, 5, 6, 7, 8, 9, 11, 12] [(1, 4), (1, 5), (1, 10), (2, 10), (3, 10)] (by kernel_rfl) ?_))
    · refine sxo_pure rfl rfl rfl trivial ?_
      refine sxo_loadF rfl rfl rfl (by exact .tail .head) rfl rfl rfl ?_
      refine sxo_load rfl rfl rfl (by exact .tail .head) rfl rfl rfl rfl ?_
      refine sxo_load rfl rfl rfl (by exact .head) rfl rfl rfl rfl ?_
      refine sxo_buildSlice rfl rfl rfl rfl rfl rfl rfl rfl rfl rfl rfl rfl rfl (fun _ => ?_)
      refine sxo_call0 rfl rfl rfl rfl (by (apply Take.cons; focus exact .head); exact .nil) (fun Kc hK hB => filesRight_ok Kc _ [old, name] (by simp [hg1, hg2]) (by simp)) rfl rfl ?_ (hH := by rintro v m ⟨rfl, rfl⟩; (refine hh_chk ⟨_, _, _, (by exact .tail (.tail .head)), (by rfl)⟩ ?_; exact hh_nil))
      rintro v m ⟨rfl, rfl⟩
      simp only [List.cons_append, List.nil_append, List.append_nil, resV]
      skip
      refine sxo_call0 rfl rfl rfl rfl (by (apply Take.cons; focus exact .tail (.tail (.tail .head))); (apply Take.cons; focus exact .tail (.tail (.tail .head))); exact .nil) (fun Kc hK hB => find_ok Kc bd room bm st wr names old f hfn) rfl rfl ?_ (hH := by rintro v m ⟨rfl, rfl⟩; (refine hh_free rfl ?_; exact hh_nil))
      rintro v m ⟨rfl, rfl⟩
      simp only [List.cons_append, List.nil_append, List.append_nil, resV]
      refine sxo_pure rfl rfl rfl trivial ?_
      refine sxo_pure rfl rfl rfl trivial ?_
      refine sxo_pure rfl rfl rfl trivial ?_
      refine sxo_alloc rfl rfl rfl rfl rfl rfl (fun _ => ?_)
      refine sxo_store rfl rfl rfl rfl (by exact .head) rfl rfl rfl rfl rfl ?_
      refine sxo_pure rfl rfl rfl trivial ?_
      refine sxo_end ?_
      exact sx_less (by refine .cons rfl ?_; refine .cons rfl ?_; refine .cons rfl ?_; refine .cons rfl ?_; refine .cons rfl ?_; exact .nil _) (by (apply Take.cons; focus exact .tail (.tail (.tail (.tail (.tail .head))))); (apply Take.cons; focus exact .tail (.tail (.tail (.tail .head)))); (apply Take.cons; focus exact .head); (apply Take.cons; focus exact .head); (apply Take.cons; focus exact .head); (apply Take.cons; focus exact .tail .head); exact .nil) (J (_, _, _))
    · refine sxo_pure rfl rfl rfl trivial ?_
      refine sxo_loadF rfl rfl rfl (by exact .tail .head) rfl rfl rfl ?_
      refine sxo_load rfl rfl rfl (by exact .tail .head) rfl rfl rfl rfl ?_
      refine sxo_load rfl rfl rfl (by exact .head) rfl rfl rfl rfl ?_
      refine sxo_buildSlice rfl rfl rfl rfl rfl rfl rfl rfl rfl rfl rfl rfl rfl (fun _ => ?_)
      refine sxo_call0 rfl rfl rfl rfl (by (apply Take.cons; focus exact .head); exact .nil) (fun Kc hK hB => filesRight_ok Kc _ [old, name] (by simp [hg1, hg2]) (by simp)) rfl rfl ?_ (hH := by rintro v m ⟨rfl, rfl⟩; (refine hh_chk ⟨_, _, _, (by exact .tail (.tail .head)), (by rfl)⟩ ?_; exact hh_nil))
      rintro v m ⟨rfl, rfl⟩
      simp only [List.cons_append, List.nil_append, List.append_nil, resV]
      refine sxo_alloc rfl rfl rfl rfl rfl rfl (fun _ => ?_)
      refine sxo_call0 rfl rfl rfl rfl (by (apply Take.cons; focus exact .tail (.tail (.tail (.tail .head)))); (apply Take.cons; focus exact .tail (.tail (.tail (.tail .head)))); exact .nil) (fun Kc hK hB => find_ok Kc bd room bm st wr names old f hfn) rfl rfl ?_ (hH := by rintro v m ⟨rfl, rfl⟩; (refine hh_free rfl ?_; exact hh_nil))
      rintro v m ⟨rfl, rfl⟩
      simp only [List.cons_append, List.nil_append, List.append_nil, resV]
      refine sxo_pure rfl rfl rfl trivial ?_
      refine sxo_pure rfl rfl rfl trivial ?_
      refine sxo_pure rfl rfl rfl trivial ?_
      refine sxo_store rfl rfl rfl rfl (by exact .tail (.tail .head)) rfl rfl rfl rfl rfl ?_
      refine sxo_pure rfl rfl rfl trivial ?_
      refine sxo_end ?_
      exact sx_less (by refine .cons rfl ?_; refine .cons rfl ?_; refine .cons rfl ?_; refine .cons rfl ?_; refine .cons rfl ?_; exact .nil _) (by (apply Take.cons; focus exact .tail (.tail (.tail (.tail (.tail .head))))); (apply Take.cons; focus exact .tail (.tail (.tail (.tail .head)))); (apply Take.cons; focus exact .head); (apply Take.cons; focus exact .head); (apply Take.cons; focus exact .head); (apply Take.cons; focus exact .tail .head); exact .nil) (J (_, _, _))
    · refine sxo_pure rfl rfl rfl trivial ?_
      refine sxo_loadF rfl rfl rfl (by exact .tail .head) rfl rfl rfl ?_
      refine sxo_load rfl rfl rfl (by exact .tail .head) rfl rfl rfl rfl ?_
      refine sxo_load rfl rfl rfl (by exact .head) rfl rfl rfl rfl ?_
      refine sxo_buildSlice rfl rfl rfl rfl rfl rfl rfl rfl rfl rfl rfl rfl rfl (fun _ => ?_)
      refine sxo_alloc rfl rfl rfl rfl rfl rfl (fun _ => ?_)
      refine sxo_call0 rfl rfl rfl rfl (by (apply Take.cons; focus exact .tail .head); exact .nil) (fun Kc hK hB => filesRight_ok Kc _ [old, name] (by simp [hg1, hg2]) (by simp)) rfl rfl ?_ (hH := by rintro v m ⟨rfl, rfl⟩; (refine hh_chk ⟨_, _, _, (by exact .tail (.tail (.tail .head))), (by rfl)⟩ ?_; exact hh_nil))
      rintro v m ⟨rfl, rfl⟩
      simp only [List.cons_append, List.nil_append, List.append_nil, resV]
      skip
      refine sxo_call0 rfl rfl rfl rfl (by (apply Take.cons; focus exact .tail (.tail (.tail (.tail .head)))); (apply Take.cons; focus exact .tail (.tail (.tail (.tail .head)))); exact .nil) (fun Kc hK hB => find_ok Kc bd room bm st wr names old f hfn) rfl rfl ?_ (hH := by rintro v m ⟨rfl, rfl⟩; (refine hh_free rfl ?_; exact hh_nil))
      rintro v m ⟨rfl, rfl⟩
      simp only [List.cons_append, List.nil_append, List.append_nil, resV]
      refine sxo_pure rfl rfl rfl trivial ?_
      refine sxo_pure rfl rfl rfl trivial ?_
      refine sxo_pure rfl rfl rfl trivial ?_
      refine sxo_store rfl rfl rfl rfl (by exact .tail (.tail (.tail .head))) rfl rfl rfl rfl rfl ?_
      refine sxo_pure rfl rfl rfl trivial ?_
      refine sxo_end ?_
      exact sx_less (by refine .cons rfl ?_; refine .cons rfl ?_; refine .cons rfl ?_; refine .cons rfl ?_; refine .cons rfl ?_; exact .nil _) (by (apply Take.cons; focus exact .tail (.tail (.tail (.tail (.tail .head))))); (apply Take.cons; focus exact .tail (.tail (.tail (.tail .head)))); (apply Take.cons; focus exact .head); (apply Take.cons; focus exact .head); (apply Take.cons; focus exact .head); (apply Take.cons; focus exact .tail .head); exact .nil) (J (_, _, _))
    · refine sxo_pure rfl rfl rfl trivial ?_
      refine sxo_loadF rfl rfl rfl (by exact .tail .head) rfl rfl rfl ?_
      refine sxo_loadF rfl rfl rfl (by exact .tail .head) rfl rfl rfl ?_
      refine sxo_loadF rfl rfl rfl (by exact .head) rfl rfl rfl ?_
      refine sxo_alloc rfl rfl rfl rfl rfl rfl (fun _ => ?_)
      refine sxo_buildSlice rfl rfl rfl rfl rfl rfl rfl rfl rfl rfl rfl rfl rfl (fun _ => ?_)
      refine sxo_call0 rfl rfl rfl rfl (by (apply Take.cons; focus exact .head); exact .nil) (fun Kc hK hB => filesRight_ok Kc _ [old, name] (by simp [hg1, hg2]) (by simp)) rfl rfl ?_ (hH := by rintro v m ⟨rfl, rfl⟩; (refine hh_free rfl ?_; refine hh_free rfl ?_; refine hh_chk ⟨_, _, _, (by exact .tail (.tail (.tail .head))), (by rfl)⟩ ?_; exact hh_nil))
      rintro v m ⟨rfl, rfl⟩
      simp only [List.cons_append, List.nil_append, List.append_nil, resV]
      skip
      refine sxo_call0 rfl rfl rfl rfl (by (apply Take.cons; focus exact .tail (.tail (.tail (.tail .head)))); (apply Take.cons; focus exact .tail (.tail (.tail (.tail .head)))); exact .nil) (fun Kc hK hB => find_ok Kc bd room bm st wr names old f hfn) rfl rfl ?_ (hH := by rintro v m ⟨rfl, rfl⟩; (refine hh_free rfl ?_; refine hh_free rfl ?_; refine hh_free rfl ?_; exact hh_nil))
      rintro v m ⟨rfl, rfl⟩
      simp only [List.cons_append, List.nil_append, List.append_nil, resV]
      refine sxo_pure rfl rfl rfl trivial ?_
      refine sxo_pure rfl rfl rfl trivial ?_
      refine sxo_pure rfl rfl rfl trivial ?_
      refine sxo_store rfl rfl rfl rfl (by exact .tail (.tail (.tail .head))) rfl rfl rfl rfl rfl ?_
      refine sxo_pure rfl rfl rfl trivial ?_
      refine sxo_end ?_
      exact sx_less (by refine .cons rfl ?_; refine .cons rfl ?_; refine .cons rfl ?_; refine .cons rfl ?_; refine .cons rfl ?_; exact .nil _) (by (apply Take.cons; focus exact .tail (.tail (.tail (.tail (.tail .head))))); (apply Take.cons; focus exact .tail (.tail (.tail (.tail .head)))); (apply Take.cons; focus exact .head); (apply Take.cons; focus exact .head); (apply Take.cons; focus exact .head); (apply Take.cons; focus exact .tail .head); exact .nil) (J (_, _, _))
  · obtain ⟨bo, bn, bf⟩ := x
    have hYY : ∀ Kd b', TRV Tryz.prog Kd (.func (.func 322) #[] #[.pointer (some ⟨bo, 0, none⟩), .pointer (some ⟨bf, 0, none⟩), .pointer (some ⟨bn, 0, none⟩)]) [.o (.map (some b'))] [.map b' ekStr evPO names, .blk bo 9 [.c (.string old)], .blk bf 221 [.c (.pointer (some ⟨f, 0, none⟩))], .blk bn 9 [.c (.string name)]]
        fun _ m => ∃ names' M', (names' = mput (mdel names old) name (some f) ∧ M' = [.blk bo 9 [.c (.string old)], .blk bf 221 [.c (.pointer (some ⟨f, 0, none⟩))], .blk bn 9 [.c (.string name)]]) ∧ m = .map b' ekStr evPO names' :: M' := by
      intro Kd b'
      refine TRV.mono (TR.val (Rename1_ok Kd b' bo bf bn f names old name) rfl) ?_
      rintro v m hm
      exact ⟨_, _, ⟨rfl, rfl⟩, hm⟩
    refine sx_seq ?_
    refine sx_seq ?_
    refine sx_region ?_
    refine sxo_pure rfl rfl rfl trivial ?_
    refine sxo_pure rfl rfl rfl trivial ?_
    refine sxo_end ?_
    refine sx_condF rfl ?_
    refine sx_skip ?_
    refine sx_seq ?_
    refine sx_region ?_
    refine sxo_pure rfl rfl rfl trivial ?_
    refine sxo_pure rfl rfl rfl trivial ?_
    refine sxo_call0 rfl rfl rfl rfl (by (apply Take.cons; focus exact .tail (.tail (.tail .head))); (apply Take.cons; focus exact .tail (.tail (.tail .head))); (apply Take.cons; focus exact .tail (.tail (.tail .head))); (apply Take.cons; focus exact .head); (apply Take.cons; focus exact .tail .head); (apply Take.cons; focus exact .head); exact .nil) (fun Kc hK hB => change_ok Kc bd room bm st wr sts names (.func (.func 322) #[] #[.pointer (some ⟨bo, 0, none⟩), .pointer (some ⟨bf, 0, none⟩), .pointer (some ⟨bn, 0, none⟩)]) [.blk bo 9 [.c (.string old)], .blk bf 221 [.c (.pointer (some ⟨f, 0, none⟩))], .blk bn 9 [.c (.string name)]] (fun names' M' => names' = mput (mdel names old) name (some f) ∧ M' = [.blk bo 9 [.c (.string old)], .blk bf 221 [.c (.pointer (some ⟨f, 0, none⟩))], .blk bn 9 [.c (.string name)]]) hs (fun Kd _ b' => hYY Kd b')) rfl rfl ?_ (hH := by rintro v m ⟨b', st', sts', _, _, ⟨rfl, rfl⟩, hst, rfl⟩; (exact hh_nil))
    rintro v m ⟨b', st', sts', _, _, ⟨rfl, rfl⟩, hst, rfl⟩
    simp only [List.cons_append, List.nil_append, List.append_nil, resV]
    refine sxo_end ?_
    refine sx_seq ?_
    refine sx_region ?_
    refine sxo_pure rfl rfl rfl trivial ?_
    refine sxo_end ?_
    refine sx_retL hret hro hk (.tmp rfl .nil) ⟨_, _, _, rfl, hst, rfl⟩ (by (apply Take.cons; focus exact .head); (apply Take.cons; focus exact .head); (apply Take.cons; focus exact .head); exact .nil)
end Go.SX
