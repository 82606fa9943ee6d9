/-
  member: Hear.
  strikes with an empty book; choke, conn, rarest, flight: New.
-/
import Derived.Test.YtbeokgkcndcahaaGreatDoorQ11
set_option linter.all false
namespace Go.SX
open Go.Proofs
attribute [local irreducible] SX SXo
theorem mdel_len1 {m : List (Int × Member)} (h : VOk m) {d : Int × Member} (hd : d ∈ m) : (mdel m d.2.id).length + 1 = m.length := by
  have h1 := congrArg List.length (mdel_keys m d.2.id)
  have h2 : d.2.id ∈ m.map (·.1) := by rw [h.id d hd]; exact List.mem_map_of_mem hd
  rw [List.length_map, List.length_erase_of_mem h2, List.length_map] at h1
  have := List.length_pos_of_mem hd
  omega
theorem Hear_ok (K : Hp) (bv bm : Nat) (self : Member) (most : Int) (m : List (Int × Member)) (hm : 1 ≤ most ∧ most ≤ 1000) (hml : m.length ≤ most) (hv : VOk m) (x : Member) (now : Int) :
    TR Tryz.prog K 99 [evPtr bv, evM x, .o (.int .i64 now)] [.blk bv 143 (viewCh self most bm), .map bm ekInt evM m]
    fun _ r => ∃ self' m', VOk m' ∧ m'.length ≤ most ∧ r = [.blk bv 143 (viewCh self' most bm), .map bm ekInt evM m'] := by
  refine tr_intro Tryz.func99 rfl rfl rfl fun cx hro hk hret => ?_
  refine sx_seq ?_
  refine sx_region ?_
  refine sxo_box rfl rfl rfl rfl rfl rfl (fun _ => ?_)
  refine sxo_pure rfl rfl rfl trivial ?_
  refine sxo_pure rfl rfl rfl trivial ?_
  refine sxo_end ?_
  refine sx_seq ?_
  refine sx_seq ?_
  refine sx_region ?_
  refine sxo_pure rfl rfl rfl trivial ?_
  refine sxo_load rfl rfl rfl (by exact .head) rfl rfl rfl rfl ?_
  refine sxo_call0 rfl rfl rfl rfl (by exact .nil) (fun Kc hK hB => withinM_ok Kc [] _ _ _) rfl rfl ?_ (hH := by rintro v m ⟨rfl, rfl⟩; (exact hh_nil))
  rintro v m ⟨rfl, rfl⟩
  simp only [List.cons_append, List.nil_append, List.append_nil, resV]
  refine sxo_pure rfl rfl rfl trivial ?_
  refine sxo_pure rfl rfl rfl trivial ?_
  refine sxo_split (t := 15) rfl (fun w1 => ?_) (fun w1 => ?_)
  · refine sxo_pass rfl rfl rfl ?_
    refine sxo_pass rfl rfl rfl ?_
    refine sxo_pass rfl rfl rfl ?_
    refine sxo_pass rfl rfl rfl ?_
    refine sxo_pure rfl rfl rfl trivial ?_
    refine sxo_pure rfl rfl rfl trivial ?_
    refine sxo_pass rfl rfl rfl ?_
    refine sxo_pass rfl rfl rfl ?_
    refine sxo_pass rfl rfl rfl ?_
    refine sxo_pass rfl rfl rfl ?_
    refine sxo_pure rfl rfl rfl trivial ?_
    refine sxo_pure rfl rfl rfl trivial ?_
    refine sxo_pass rfl rfl rfl ?_
    refine sxo_pass rfl rfl rfl ?_
    refine sxo_pass rfl rfl rfl ?_
    refine sxo_pure rfl rfl rfl trivial ?_
    refine sxo_end ?_
    refine sx_condT rfl ?_
    refine sx_seq ?_
    refine sx_region ?_
    refine sxo_pure rfl rfl rfl trivial ?_
    refine sxo_pure rfl rfl rfl trivial ?_
    refine sxo_end ?_
    refine sx_retL hret hro hk (.tmp rfl (.tmp rfl .nil)) ⟨self, m, hv, hml, rfl⟩ (by (apply Take.cons; focus exact .tail .head); (apply Take.cons; focus exact .tail .head); exact .nil)
  simp at w1
  refine sxo_pure rfl rfl rfl trivial ?_
  refine sxo_load rfl rfl rfl (by exact .head) rfl rfl rfl rfl ?_
  refine sxo_call0 rfl rfl rfl rfl (by exact .nil) (fun Kc hK hB => withinM_ok Kc [] _ _ _) rfl rfl ?_ (hH := by rintro v m ⟨rfl, rfl⟩; (exact hh_nil))
  rintro v m ⟨rfl, rfl⟩
  simp only [List.cons_append, List.nil_append, List.append_nil, resV]
  refine sxo_pure rfl rfl rfl trivial ?_
  refine sxo_pure rfl rfl rfl trivial ?_
  refine sxo_pure rfl rfl rfl trivial ?_
  refine sxo_split (t := 21) rfl (fun w2 => ?_) (fun w2 => ?_)
  · refine sxo_pass rfl rfl rfl ?_
    refine sxo_pass rfl rfl rfl ?_
    refine sxo_pass rfl rfl rfl ?_
    refine sxo_pass rfl rfl rfl ?_
    refine sxo_pure rfl rfl rfl trivial ?_
    refine sxo_pure rfl rfl rfl trivial ?_
    refine sxo_pass rfl rfl rfl ?_
    refine sxo_pass rfl rfl rfl ?_
    refine sxo_pass rfl rfl rfl ?_
    refine sxo_pure rfl rfl rfl trivial ?_
    refine sxo_end ?_
    refine sx_condT rfl ?_
    refine sx_seq ?_
    refine sx_region ?_
    refine sxo_pure rfl rfl rfl trivial ?_
    refine sxo_pure rfl rfl rfl trivial ?_
    refine sxo_end ?_
    refine sx_retL hret hro hk (.tmp rfl (.tmp rfl .nil)) ⟨self, m, hv, hml, rfl⟩ (by (apply Take.cons; focus exact .tail .head); (apply Take.cons; focus exact .tail .head); exact .nil)
  simp at w2
  refine sxo_pure rfl rfl rfl trivial ?_
  refine sxo_load rfl rfl rfl (by exact .head) rfl rfl rfl rfl ?_
  refine sxo_call0 rfl rfl rfl rfl (by exact .nil) (fun Kc hK hB => withinM_ok Kc [] _ _ _) rfl rfl ?_ (hH := by rintro v m ⟨rfl, rfl⟩; (exact hh_nil))
  rintro v m ⟨rfl, rfl⟩
  simp only [List.cons_append, List.nil_append, List.append_nil, resV]
  refine sxo_pure rfl rfl rfl trivial ?_
  refine sxo_pure rfl rfl rfl trivial ?_
  refine sxo_pure rfl rfl rfl trivial ?_
  refine sxo_split (t := 27) rfl (fun w3 => ?_) (fun w3 => ?_)
  · refine sxo_pass rfl rfl rfl ?_
    refine sxo_pass rfl rfl rfl ?_
    refine sxo_pass rfl rfl rfl ?_
    refine sxo_pure rfl rfl rfl trivial ?_
    refine sxo_end ?_
    refine sx_condT rfl ?_
    refine sx_seq ?_
    refine sx_region ?_
    refine sxo_pure rfl rfl rfl trivial ?_
    refine sxo_pure rfl rfl rfl trivial ?_
    refine sxo_end ?_
    refine sx_retL hret hro hk (.tmp rfl (.tmp rfl .nil)) ⟨self, m, hv, hml, rfl⟩ (by (apply Take.cons; focus exact .tail .head); (apply Take.cons; focus exact .tail .head); exact .nil)
  simp at w3
  refine sxo_pure rfl rfl rfl trivial ?_
  refine sxo_call0 rfl rfl rfl rfl (by exact .nil) (fun Kc hK hB => withinM_ok Kc [] _ _ _) rfl rfl ?_ (hH := by rintro v m ⟨rfl, rfl⟩; (exact hh_nil))
  rintro v m ⟨rfl, rfl⟩
  simp only [List.cons_append, List.nil_append, List.append_nil, resV]
  refine sxo_pure rfl rfl rfl trivial ?_
  refine sxo_pure rfl rfl rfl trivial ?_
  refine sxo_end ?_
  refine sx_cond rfl (fun w4 => ?_) (fun w4 => ?_)
  · refine sx_seq ?_
    refine sx_region ?_
    refine sxo_pure rfl rfl rfl trivial ?_
    refine sxo_pure rfl rfl rfl trivial ?_
    refine sxo_end ?_
    refine sx_retL hret hro hk (.tmp rfl (.tmp rfl .nil)) ⟨self, m, hv, hml, rfl⟩ (by (apply Take.cons; focus exact .tail .head); (apply Take.cons; focus exact .tail .head); exact .nil)
  simp at w4
  refine sx_skip ?_
  refine sx_seq ?_
  refine sx_seq ?_
  refine sx_drawN 3 (by kernel_rfl) [0, 1, 2, 3, 4, 5, 6, 7] [] (by kernel_rfl) ?_
  refine sxo_pure rfl rfl rfl trivial ?_
  refine sxo_load rfl rfl rfl (by exact .head) rfl rfl rfl rfl ?_
  refine sxo_pure rfl rfl rfl trivial ?_
  refine sxo_pure rfl rfl rfl trivial ?_
  refine sxo_pure rfl rfl rfl trivial ?_
  refine sxo_pure rfl rfl rfl trivial ?_
  refine sxo_load rfl rfl rfl (by exact .tail .head) rfl rfl rfl rfl ?_
  refine sxo_pure rfl rfl rfl trivial ?_
  refine sxo_end ?_
  refine sx_cond rfl (fun w5 => ?_) (fun w5 => ?_)
  · refine sx_seq ?_
    refine sx_drawN 4 (by kernel_rfl) [0, 1, 2, 3, 4, 5, 6] [] (by kernel_rfl) ?_
    refine sxo_load rfl rfl rfl (by exact .head) rfl rfl rfl rfl ?_
    refine sxo_pure rfl rfl rfl trivial ?_
    refine sxo_pure rfl rfl rfl trivial ?_
    refine sxo_pure rfl rfl rfl trivial ?_
    refine sxo_load rfl rfl rfl (by exact .tail .head) rfl rfl rfl rfl ?_
    refine sxo_call0 rfl rfl rfl rfl (by exact .nil) (fun Kc hK hB => newer_ok Kc x self) rfl rfl ?_ (hH := by rintro v m ⟨rfl, rfl⟩; (exact hh_nil))
    rintro v m ⟨rfl, rfl⟩
    simp only [List.cons_append, List.nil_append, List.append_nil, resV]
    refine sxo_pure rfl rfl rfl trivial ?_
    refine sxo_end ?_
    refine sx_seq ?_
    refine sx_seq ?_
    refine sx_region ?_
    refine sxo_pure rfl rfl rfl trivial ?_
    refine sxo_end ?_
    refine sx_cond rfl (fun w6 => ?_) (fun w6 => ?_)
    · refine sx_region ?_
      refine sxo_pure rfl rfl rfl trivial ?_
      refine sxo_pure rfl rfl rfl trivial ?_
      refine sxo_load rfl rfl rfl (by exact .head) rfl rfl rfl rfl ?_
      refine sxo_pure rfl rfl rfl (by omega) ?_
      refine sxo_min rfl rfl rfl rfl rfl ?_
      refine sxo_pure rfl rfl rfl trivial ?_
      refine sxo_pure rfl rfl rfl trivial ?_
      refine sxo_pure rfl rfl rfl trivial ?_
      refine sxo_store rfl rfl rfl rfl (by exact .tail .head) rfl rfl rfl rfl rfl ?_
      refine sxo_end ?_
      refine sx_seq ?_
      refine sx_region ?_
      refine sxo_pure rfl rfl rfl trivial ?_
      refine sxo_pure rfl rfl rfl trivial ?_
      refine sxo_pure rfl rfl rfl trivial ?_
      refine sxo_end ?_
      refine sx_retL hret hro hk (.tmp rfl (.tmp rfl .nil)) ⟨{ self with inc := min (x.inc + 1) 1073741824 }, m, hv, hml, rfl⟩ (by (apply Take.cons; focus exact .head); (apply Take.cons; focus exact .tail .head); exact .nil)
    · refine sx_skip ?_
      refine sx_seq ?_
      refine sx_region ?_
      refine sxo_pure rfl rfl rfl trivial ?_
      refine sxo_pure rfl rfl rfl trivial ?_
      refine sxo_pure rfl rfl rfl trivial ?_
      refine sxo_end ?_
      refine sx_retL hret hro hk (.tmp rfl (.tmp rfl .nil)) ⟨self, m, hv, hml, rfl⟩ (by (apply Take.cons; focus exact .tail .head); (apply Take.cons; focus exact .tail .head); exact .nil)
  simp at w5
  refine sx_skip ?_
  refine sx_seq ?_
  refine sx_drawN 8 (by kernel_rfl) [0, 1, 2, 3, 4, 5, 6, 7, 8, 9, 10, 11, 12] [(3, 10), (5, 10), (6, 10)] (by kernel_rfl) ?_
  refine sxo_pure rfl rfl rfl trivial ?_
  refine sxo_pure rfl rfl rfl trivial ?_
  refine sxo_pure rfl rfl rfl trivial ?_
  refine sxo_loadF rfl rfl rfl (by exact .tail .head) rfl rfl rfl ?_
  refine sxo_pure rfl rfl rfl trivial ?_
  refine sxo_loadF rfl rfl rfl (by exact .head) rfl rfl rfl ?_
  refine sxo_lookupOkF ekInt _ HasZ.z rfl rfl rfl rfl (by exact .tail (.tail .head)) rfl rfl (kt_int rfl rfl) rfl rfl rfl rfl ?_
  refine sxo_pure rfl rfl rfl trivial ?_
  refine sxo_pure rfl rfl rfl trivial ?_
  refine sxo_pure rfl rfl rfl trivial ?_
  refine sxo_alloc rfl rfl rfl rfl rfl rfl (fun _ => ?_)
  refine sxo_store rfl rfl rfl rfl (by exact .head) rfl rfl rfl rfl rfl ?_
  refine sxo_pure rfl rfl rfl trivial ?_
  refine sxo_end ?_
  refine sx_seq ?_
  refine sx_seq ?_
  refine sx_region ?_
  refine sxo_pure rfl rfl rfl trivial ?_
  refine sxo_pure rfl rfl rfl trivial ?_
  refine sxo_split (t := 67) rfl (fun w6 => ?_) (fun w6 => ?_)
  · refine sxo_load rfl rfl rfl (by exact .tail .head) rfl rfl rfl rfl ?_
    refine sxo_load rfl rfl rfl (by exact .head) rfl rfl rfl rfl ?_
    refine sxo_call0 rfl rfl rfl rfl (by exact .nil) (fun Kc hK hB => newer_ok Kc x _) rfl rfl ?_ (hH := by rintro v m ⟨rfl, rfl⟩; (exact hh_nil))
    rintro v m ⟨rfl, rfl⟩
    simp only [List.cons_append, List.nil_append, List.append_nil, resV]
    refine sxo_pure rfl rfl rfl trivial ?_
    refine sxo_pure rfl rfl rfl trivial ?_
    refine sxo_pure rfl rfl rfl trivial ?_
    refine sxo_split (t := 73) rfl (fun w7 => ?_) (fun w7 => ?_)
    · refine sxo_pass rfl rfl rfl ?_
      refine sxo_pass rfl rfl rfl ?_
      refine sxo_pass rfl rfl rfl ?_
      refine sxo_pass rfl rfl rfl ?_
      refine sxo_pass rfl rfl rfl ?_
      refine sxo_pass rfl rfl rfl ?_
      refine sxo_pass rfl rfl rfl ?_
      refine sxo_pure rfl rfl rfl trivial ?_
      refine sxo_end ?_
      refine sx_condT rfl ?_
      refine sx_seq ?_
      refine sx_region ?_
      refine sxo_pure rfl rfl rfl trivial ?_
      refine sxo_pure rfl rfl rfl trivial ?_
      refine sxo_end ?_
      refine sx_retL hret hro hk (.tmp rfl (.tmp rfl .nil)) ⟨self, m, hv, hml, rfl⟩ (by (apply Take.cons; focus exact .tail (.tail .head)); (apply Take.cons; focus exact .tail (.tail .head)); exact .nil)
    · refine sxo_pure rfl rfl rfl trivial ?_
      refine sxo_pure rfl rfl rfl trivial ?_
      refine sxo_pure rfl rfl rfl trivial ?_
      refine sxo_split (t := 76) rfl (fun w8 => ?_) (fun w8 => ?_)
      · simp [w6] at w8
      · refine sxo_pass rfl rfl rfl ?_
        refine sxo_pass rfl rfl rfl ?_
        refine sxo_pass rfl rfl rfl ?_
        refine sxo_pure rfl rfl rfl trivial ?_
        refine sxo_pure rfl rfl rfl trivial ?_
        refine sxo_end ?_
        refine sx_condF rfl ?_
        refine sx_skip ?_
        refine sx_seq ?_
        refine sx_region ?_
        refine sxo_pure rfl rfl rfl trivial ?_
        refine sxo_pure rfl rfl rfl trivial ?_
        refine sxo_store rfl rfl rfl rfl (by exact .tail .head) rfl rfl rfl rfl rfl ?_
        refine sxo_end ?_
        refine sx_seq ?_
        refine sx_drawN 12 (by kernel_rfl) [0, 1, 2, 3, 4, 5, 6, 7] [] (by kernel_rfl) ?_
        refine sxo_pure rfl rfl rfl trivial ?_
        refine sxo_pure rfl rfl rfl trivial ?_
        refine sxo_pure rfl rfl rfl trivial ?_
        refine sxo_load rfl rfl rfl (by exact .tail (.tail .head)) rfl rfl rfl rfl ?_
        refine sxo_pure rfl rfl rfl trivial ?_
        refine sxo_load rfl rfl rfl (by exact .head) rfl rfl rfl rfl ?_
        refine sxo_load rfl rfl rfl (by exact .head) rfl rfl rfl rfl ?_
        refine sxo_update ekInt _ (v := ({ x with since := now } : Member)) (.inl rfl) rfl rfl rfl rfl (by exact .tail (.tail (.tail .head))) rfl rfl (kt_int rfl rfl) rfl rfl ?_
        refine sxo_end ?_
        refine sx_seq ?_
        refine sx_seq ?_
        refine sx_drawN 13 (by kernel_rfl) [0, 1, 2, 3, 4, 5, 6, 7, 8, 9] [] (by kernel_rfl) ?_
        refine sxo_pure rfl rfl rfl trivial ?_
        refine sxo_pure rfl rfl rfl trivial ?_
        refine sxo_pure rfl rfl rfl trivial ?_
        refine sxo_load rfl rfl rfl (by exact .tail (.tail (.tail .head))) rfl rfl rfl rfl ?_
        refine sxo_lenMap rfl rfl rfl (by exact .head) rfl rfl rfl rfl ?_
        refine sxo_pure rfl rfl rfl trivial ?_
        refine sxo_pure rfl rfl rfl trivial ?_
        refine sxo_pure rfl rfl rfl trivial ?_
        refine sxo_load rfl rfl rfl (by exact .tail (.tail (.tail .head))) rfl rfl rfl rfl ?_
        refine sxo_pure rfl rfl rfl trivial ?_
        refine sxo_end ?_
        have hput : VOk (mput m x.id { x with since := now }) := hv.put rfl
        refine sx_cond rfl (fun w9 => ?_) (fun w9 => ?_)
        · simp at w9
          refine sx_drawN 14 (by kernel_rfl) [0, 1, 2, 3, 4, 5, 6] [(3, 5)] (by kernel_rfl) ?_
          refine sxo_pure rfl rfl rfl trivial ?_
          refine sxo_pure rfl rfl rfl trivial ?_
          refine sxo_pure rfl rfl rfl trivial ?_
          refine sxo_loadF rfl rfl rfl (by exact .tail (.tail (.tail .head))) rfl rfl rfl ?_
          refine sxo_pure rfl rfl rfl trivial ?_
          refine sxo_call0 rfl rfl rfl rfl (by (apply Take.cons; focus exact .tail (.tail (.tail .head))); (apply Take.cons; focus exact .head); exact .nil) (fun Kc hK hB => first_ok Kc bv bm self most (mput m x.id { x with since := now }) (by omega) (by have := mput_length m x.id { x with since := now }; split at this <;> omega)) rfl rfl ?_ (hH := by rintro v m ⟨⟨d, hd, rfl⟩, rfl⟩; (refine hh_chk ⟨_, _, _, (by exact .head), (by rfl)⟩ ?_; exact hh_nil))
          rintro v m ⟨⟨d, hd, rfl⟩, rfl⟩
          simp only [List.cons_append, List.nil_append, List.append_nil, resV]
          refine sxo_delete ekInt rfl rfl rfl rfl (by exact .tail .head) rfl rfl (kt_int rfl rfl) rfl rfl ?_
          refine sxo_end ?_
          refine sx_seq ?_
          refine sx_region ?_
          refine sxo_pure rfl rfl rfl trivial ?_
          refine sxo_pure rfl rfl rfl trivial ?_
          refine sxo_end ?_
          refine sx_retL hret hro hk (.tmp rfl (.tmp rfl .nil)) ⟨self, mdel (mput m x.id { x with since := now }) d.2.id, hput.del _, ?_, rfl⟩ (by (apply Take.cons; focus exact .tail .head); (apply Take.cons; focus exact .head); exact .nil)
          have h1 := mdel_len1 hput hd
          have h2 := mput_length m x.id { x with since := now }
          split at h2 <;> omega
        · simp at w9
          refine sx_skip ?_
          refine sx_seq ?_
          refine sx_region ?_
          refine sxo_pure rfl rfl rfl trivial ?_
          refine sxo_pure rfl rfl rfl trivial ?_
          refine sxo_end ?_
          refine sx_retL hret hro hk (.tmp rfl (.tmp rfl .nil)) ⟨self, mput m x.id { x with since := now }, hput, by omega, rfl⟩ (by (apply Take.cons; focus exact .tail (.tail (.tail .head))); (apply Take.cons; focus exact .head); exact .nil)
  · refine sxo_pass rfl rfl rfl ?_
    refine sxo_pass rfl rfl rfl ?_
    refine sxo_pass rfl rfl rfl ?_
    refine sxo_pass rfl rfl rfl ?_
    refine sxo_pure rfl rfl rfl trivial ?_
    refine sxo_pure rfl rfl rfl trivial ?_
    refine sxo_pure rfl rfl rfl trivial ?_
    refine sxo_pure rfl rfl rfl trivial ?_
    refine sxo_pure rfl rfl rfl trivial ?_
    refine sxo_split (t := 76) rfl (fun w7 => ?_) (fun w7 => ?_)
    · refine sxo_pure rfl rfl rfl trivial ?_
      refine sxo_load rfl rfl rfl (by exact .tail .head) rfl rfl rfl rfl ?_
      refine sxo_pure rfl rfl rfl trivial ?_
      refine sxo_pure rfl rfl rfl trivial ?_
      refine sxo_pure rfl rfl rfl trivial ?_
      refine sxo_end ?_
      refine sx_cond rfl (fun w8 => ?_) (fun w8 => ?_)
      · refine sx_seq ?_
        refine sx_region ?_
        refine sxo_pure rfl rfl rfl trivial ?_
        refine sxo_pure rfl rfl rfl trivial ?_
        refine sxo_end ?_
        refine sx_retL hret hro hk (.tmp rfl (.tmp rfl .nil)) ⟨self, m, hv, hml, rfl⟩ (by (apply Take.cons; focus exact .tail (.tail .head)); (apply Take.cons; focus exact .tail (.tail .head)); exact .nil)
      · refine sx_skip ?_
        refine sx_seq ?_
        refine sx_region ?_
        refine sxo_pure rfl rfl rfl trivial ?_
        refine sxo_pure rfl rfl rfl trivial ?_
        refine sxo_store rfl rfl rfl rfl (by exact .tail .head) rfl rfl rfl rfl rfl ?_
        refine sxo_end ?_
        refine sx_seq ?_
        refine sx_drawN 12 (by kernel_rfl) [0, 1, 2, 3, 4, 5, 6, 7] [] (by kernel_rfl) ?_
        refine sxo_pure rfl rfl rfl trivial ?_
        refine sxo_pure rfl rfl rfl trivial ?_
        refine sxo_pure rfl rfl rfl trivial ?_
        refine sxo_load rfl rfl rfl (by exact .tail (.tail .head)) rfl rfl rfl rfl ?_
        refine sxo_pure rfl rfl rfl trivial ?_
        refine sxo_load rfl rfl rfl (by exact .head) rfl rfl rfl rfl ?_
        refine sxo_load rfl rfl rfl (by exact .head) rfl rfl rfl rfl ?_
        refine sxo_update ekInt _ (v := ({ x with since := now } : Member)) (.inl rfl) rfl rfl rfl rfl (by exact .tail (.tail (.tail .head))) rfl rfl (kt_int rfl rfl) rfl rfl ?_
        refine sxo_end ?_
        refine sx_seq ?_
        refine sx_seq ?_
        refine sx_drawN 13 (by kernel_rfl) [0, 1, 2, 3, 4, 5, 6, 7, 8, 9] [] (by kernel_rfl) ?_
        refine sxo_pure rfl rfl rfl trivial ?_
        refine sxo_pure rfl rfl rfl trivial ?_
        refine sxo_pure rfl rfl rfl trivial ?_
        refine sxo_load rfl rfl rfl (by exact .tail (.tail (.tail .head))) rfl rfl rfl rfl ?_
        refine sxo_lenMap rfl rfl rfl (by exact .head) rfl rfl rfl rfl ?_
        refine sxo_pure rfl rfl rfl trivial ?_
        refine sxo_pure rfl rfl rfl trivial ?_
        refine sxo_pure rfl rfl rfl trivial ?_
        refine sxo_load rfl rfl rfl (by exact .tail (.tail (.tail .head))) rfl rfl rfl rfl ?_
        refine sxo_pure rfl rfl rfl trivial ?_
        refine sxo_end ?_
        have hput : VOk (mput m x.id { x with since := now }) := hv.put rfl
        refine sx_cond rfl (fun w9 => ?_) (fun w9 => ?_)
        · simp at w9
          refine sx_drawN 14 (by kernel_rfl) [0, 1, 2, 3, 4, 5, 6] [(3, 5)] (by kernel_rfl) ?_
          refine sxo_pure rfl rfl rfl trivial ?_
          refine sxo_pure rfl rfl rfl trivial ?_
          refine sxo_pure rfl rfl rfl trivial ?_
          refine sxo_loadF rfl rfl rfl (by exact .tail (.tail (.tail .head))) rfl rfl rfl ?_
          refine sxo_pure rfl rfl rfl trivial ?_
          refine sxo_call0 rfl rfl rfl rfl (by (apply Take.cons; focus exact .tail (.tail (.tail .head))); (apply Take.cons; focus exact .head); exact .nil) (fun Kc hK hB => first_ok Kc bv bm self most (mput m x.id { x with since := now }) (by omega) (by have := mput_length m x.id { x with since := now }; split at this <;> omega)) rfl rfl ?_ (hH := by rintro v m ⟨⟨d, hd, rfl⟩, rfl⟩; (refine hh_chk ⟨_, _, _, (by exact .head), (by rfl)⟩ ?_; exact hh_nil))
          rintro v m ⟨⟨d, hd, rfl⟩, rfl⟩
          simp only [List.cons_append, List.nil_append, List.append_nil, resV]
          refine sxo_delete ekInt rfl rfl rfl rfl (by exact .tail .head) rfl rfl (kt_int rfl rfl) rfl rfl ?_
          refine sxo_end ?_
          refine sx_seq ?_
          refine sx_region ?_
          refine sxo_pure rfl rfl rfl trivial ?_
          refine sxo_pure rfl rfl rfl trivial ?_
          refine sxo_end ?_
          refine sx_retL hret hro hk (.tmp rfl (.tmp rfl .nil)) ⟨self, mdel (mput m x.id { x with since := now }) d.2.id, hput.del _, ?_, rfl⟩ (by (apply Take.cons; focus exact .tail .head); (apply Take.cons; focus exact .head); exact .nil)
          have h1 := mdel_len1 hput hd
          have h2 := mput_length m x.id { x with since := now }
          split at h2 <;> omega
        · simp at w9
          refine sx_skip ?_
          refine sx_seq ?_
          refine sx_region ?_
          refine sxo_pure rfl rfl rfl trivial ?_
          refine sxo_pure rfl rfl rfl trivial ?_
          refine sxo_end ?_
          refine sx_retL hret hro hk (.tmp rfl (.tmp rfl .nil)) ⟨self, mput m x.id { x with since := now }, hput, by omega, rfl⟩ (by (apply Take.cons; focus exact .tail (.tail (.tail .head))); (apply Take.cons; focus exact .head); exact .nil)
    · simp [w6] at w7
end Go.SX

namespace Go.SX
open Go.Proofs
attribute [local irreducible] SX SXo
@[reducible] def bookCh (bb : Nat) : List Ch := [.c (.int .i64 2), .c (.int .i64 20), .c (.int .i64 5), .c (.map (some bb))]
theorem strikesNew_ok (K : Hp) : TR Tryz.prog K 24 [.o (.int .i64 2), .o (.int .i64 20), .o (.int .i64 5)] []
    fun v r => ∃ b bb, v = .t [evPtr b, .o (.int .i64 0)] ∧ r = [.blk b 146 (bookCh bb), .map bb ekInt evKnown []] := by
  refine tr_intro Tryz.func24 rfl rfl rfl fun cx hro hk hret => ?_
  refine sx_seq ?_
  refine sx_region ?_
  refine sxo_pure rfl rfl rfl trivial ?_
  refine sxo_pure rfl rfl rfl trivial ?_
  refine sxo_end ?_
  refine sx_seq ?_
  refine sx_seq ?_
  refine sx_region ?_
  refine sxo_pure rfl rfl rfl trivial ?_
  refine sxo_call0 rfl rfl rfl rfl (by exact .nil) (fun Kc hK hB => withinS_t Kc [] _ _ _ (by decide)) rfl rfl ?_ (hH := by rintro v m ⟨rfl, rfl⟩; (exact hh_nil))
  rintro v m ⟨rfl, rfl⟩
  simp only [List.cons_append, List.nil_append, List.append_nil, resV]
  refine sxo_pure rfl rfl rfl trivial ?_
  refine sxo_pure rfl rfl rfl trivial ?_
  refine sxo_pure rfl rfl rfl trivial ?_
  refine sxo_call0 rfl rfl rfl rfl (by exact .nil) (fun Kc hK hB => withinS_t Kc [] _ _ _ (by decide)) rfl rfl ?_ (hH := by rintro v m ⟨rfl, rfl⟩; (exact hh_nil))
  rintro v m ⟨rfl, rfl⟩
  simp only [List.cons_append, List.nil_append, List.append_nil, resV]
  refine sxo_pure rfl rfl rfl trivial ?_
  refine sxo_pure rfl rfl rfl trivial ?_
  refine sxo_pure rfl rfl rfl trivial ?_
  refine sxo_pure rfl rfl rfl trivial ?_
  refine sxo_call0 rfl rfl rfl rfl (by exact .nil) (fun Kc hK hB => withinS_t Kc [] _ _ _ (by decide)) rfl rfl ?_ (hH := by rintro v m ⟨rfl, rfl⟩; (exact hh_nil))
  rintro v m ⟨rfl, rfl⟩
  simp only [List.cons_append, List.nil_append, List.append_nil, resV]
  refine sxo_pure rfl rfl rfl trivial ?_
  refine sxo_pure rfl rfl rfl trivial ?_
  refine sxo_end ?_
  refine sx_condF rfl ?_
  refine sx_skip ?_
  refine sx_seq ?_
  refine sx_region ?_
  refine sxo_pure rfl rfl rfl trivial ?_
  refine sxo_pure rfl rfl rfl trivial ?_
  refine sxo_pure rfl rfl rfl trivial ?_
  refine sxo_makeMap ekInt evKnown rfl rfl rfl rfl (fun bm => ?_)
  refine sxo_build rfl rfl rfl rfl rfl rfl rfl rfl rfl ?_
  refine sxo_box rfl rfl rfl rfl rfl rfl (fun _ => ?_)
  refine sxo_pure rfl rfl rfl trivial ?_
  refine sxo_pure rfl rfl rfl trivial ?_
  refine sxo_end ?_
  refine sx_retL hret hro hk (.tmp rfl (.tmp rfl .nil)) ⟨_, _, rfl, rfl⟩ (by (apply Take.cons; focus exact .head); (apply Take.cons; focus exact .head); exact .nil)
theorem bookKnown_ok (K : Hp) (b bb : Nat) : TR Tryz.prog K 67 [evPtr b] [.blk b 146 (bookCh bb), .map bb ekInt evKnown []]
    fun v r => ∃ p n c, v = .s (.o (.slice p n c)) ∧ r = [.vec ⟨p, n, c⟩ 3 1 encI [], .blk b 146 (bookCh bb), .map bb ekInt evKnown []] := by
  refine tr_intro Tryz.func67 rfl rfl rfl fun cx hro hk hret => ?_
  refine sx_seq ?_
  refine sx_region ?_
  refine sxo_pure rfl rfl rfl trivial ?_
  refine sxo_end ?_
  refine sx_seq ?_
  refine sx_region ?_
  refine sxo_pure rfl rfl rfl trivial ?_
  refine sxo_pure rfl rfl rfl trivial ?_
  refine sxo_pure rfl rfl rfl trivial ?_
  refine sxo_load rfl rfl rfl (by exact .head) rfl rfl rfl rfl ?_
  refine sxo_call0 rfl rfl rfl rfl (by exact .nil) (fun Kc hK hB => KeysKnown_ok Kc bb) rfl rfl ?_ (hH := by rintro v m ⟨bx, rfl, rfl⟩; (exact hh_nil))
  rintro v m ⟨bx, rfl, rfl⟩
  simp only [List.cons_append, List.nil_append, List.append_nil, resV]
  skip
  refine sxo_call0 rfl rfl rfl rfl (by (apply Take.cons; focus exact .head); (apply Take.cons; focus exact .tail .head); exact .nil) (fun Kc hK hB => SortedInt_ok Kc _ [.o (.pointer (some ⟨bx, 0, none⟩))] _ _ _ (by simp) (fun l hl => by rw [hl.length_eq]; simp) (KeysKnown_seq Kc bx bb [])) rfl rfl ?_ (hH := by rintro v m ⟨p, n, c, l, hl, rfl, rfl⟩; (exact hh_nil))
  rintro v m ⟨p, n, c, l, hl, rfl, rfl⟩
  simp only [List.cons_append, List.nil_append, List.append_nil, resV]
  have hl' : l = [] := List.Perm.eq_nil hl
  subst hl'
  rw [List.mergeSort_nil]
  refine sxo_pure rfl rfl rfl trivial ?_
  refine sxo_end ?_
  refine sx_retL hret hro hk (.tmp rfl .nil) ⟨_, _, _, rfl, rfl⟩ (by (apply Take.cons; focus exact .head); (apply Take.cons; focus exact .tail (.tail .head)); (apply Take.cons; focus exact .tail .head); exact .nil)
theorem bookExpire_ok (K : Hp) (b bb : Nat) (now : Int) (hn : 0 ≤ now ∧ now ≤ 1099511627776) : TR Tryz.prog K 29 [evPtr b, .o (.int .i64 now)] [.blk b 146 (bookCh bb), .map bb ekInt evKnown []]
    fun _ r => r = [.blk b 146 (bookCh bb), .map bb ekInt evKnown []] := by
  refine tr_intro Tryz.func29 rfl rfl rfl fun cx hro hk hret => ?_
  refine sx_seq ?_
  refine sx_region ?_
  refine sxo_pure rfl rfl rfl trivial ?_
  refine sxo_pure rfl rfl rfl trivial ?_
  refine sxo_end ?_
  refine sx_seq ?_
  refine sx_seq ?_
  refine sx_region ?_
  refine sxo_pure rfl rfl rfl trivial ?_
  refine sxo_call0 rfl rfl rfl rfl (by exact .nil) (fun Kc hK hB => withinS_t Kc [] _ _ _ hn) rfl rfl ?_ (hH := by rintro v m ⟨rfl, rfl⟩; (exact hh_nil))
  rintro v m ⟨rfl, rfl⟩
  simp only [List.cons_append, List.nil_append, List.append_nil, resV]
  refine sxo_pure rfl rfl rfl trivial ?_
  refine sxo_end ?_
  refine sx_condF rfl ?_
  refine sx_skip ?_
  refine sx_seq ?_
  refine sx_region ?_
  refine sxo_pure rfl rfl rfl trivial ?_
  refine sxo_end ?_
  refine sx_seq ?_
  refine sx_seq ?_
  refine sx_region ?_
  refine sxo_pure rfl rfl rfl trivial ?_
  refine sxo_call0 rfl rfl rfl rfl (by (apply Take.cons; focus exact .head); (apply Take.cons; focus exact .head); exact .nil) (fun Kc hK hB => bookKnown_ok Kc b bb) rfl rfl ?_ (hH := by rintro v m ⟨p, n, c, rfl, rfl⟩; (exact hh_nil))
  rintro v m ⟨p, n, c, rfl, rfl⟩
  simp only [List.cons_append, List.nil_append, List.append_nil, resV]
  refine sxo_len rfl rfl rfl rfl rfl (by exact Reads.own (by exact .head)) rfl rfl ?_
  refine sxo_pure rfl rfl rfl trivial ?_
  refine sxo_end ?_
  refine sx_block ?_
  refine sx_less (by refine .cons rfl ?_; refine .cons rfl ?_; refine .cons rfl ?_; exact .nil _) (by (apply Take.cons; focus exact .tail .head); (apply Take.cons; focus exact .tail .head); exact .nil) (sx_loopI (γ := Unit) (fun _ => True) (fun _ => 0) (fun _ => [(15, .s (.o (.int .i64 0))), (16, .s (.o (.int .i64 0))), (6, .s (.o (.slice none 0 0)))]) (fun _ => [.blk b 146 (bookCh bb), .map bb ekInt evKnown []]) (()) (trivial) ?_)
  rintro _ _ _
  refine sx_seq ?_
  refine sx_region ?_
  refine sxo_pure rfl rfl rfl trivial ?_
  refine sxo_end ?_
  refine sx_seq ?_
  refine sx_condF rfl ?_
  refine sx_exit rfl ?_
  refine sx_seq ?_
  refine sx_region ?_
  refine sxo_pure rfl rfl rfl trivial ?_
  refine sxo_pure rfl rfl rfl trivial ?_
  refine sxo_pure rfl rfl rfl trivial ?_
  refine sxo_end ?_
  refine sx_retL hret hro hk (.tmp rfl (.tmp rfl .nil)) rfl (by (apply Take.cons; focus exact .head); (apply Take.cons; focus exact .head); exact .nil)
theorem bookBanned_ok (K : Hp) (b bb : Nat) (id now : Int) : TR Tryz.prog K 38 [evPtr b, .o (.int .i64 id), .o (.int .i64 now)] [.blk b 146 (bookCh bb), .map bb ekInt evKnown []]
    fun v r => v = .s (.o (.bool false)) ∧ r = [.blk b 146 (bookCh bb), .map bb ekInt evKnown []] := by
  refine tr_intro Tryz.func38 rfl rfl rfl fun cx hro hk hret => ?_
  refine sx_seq ?_
  refine sx_region ?_
  refine sxo_pure rfl rfl rfl trivial ?_
  refine sxo_end ?_
  refine sx_seq ?_
  refine sx_region ?_
  refine sxo_pure rfl rfl rfl trivial ?_
  refine sxo_pure rfl rfl rfl trivial ?_
  refine sxo_pure rfl rfl rfl trivial ?_
  refine sxo_load rfl rfl rfl (by exact .head) rfl rfl rfl rfl ?_
  refine sxo_pure rfl rfl rfl trivial ?_
  refine sxo_lookup ekInt _ HasZ.z rfl rfl rfl rfl (by exact .tail .head) rfl rfl (kt_int rfl rfl) rfl rfl rfl rfl rfl ?_
  refine sxo_pure rfl rfl rfl trivial ?_
  refine sxo_pure rfl rfl rfl trivial ?_
  refine sxo_pure rfl rfl rfl trivial ?_
  refine sxo_pass rfl rfl rfl ?_
  refine sxo_pass rfl rfl rfl ?_
  refine sxo_pass rfl rfl rfl ?_
  refine sxo_pass rfl rfl rfl ?_
  refine sxo_pass rfl rfl rfl ?_
  refine sxo_pass rfl rfl rfl ?_
  refine sxo_pass rfl rfl rfl ?_
  refine sxo_pass rfl rfl rfl ?_
  refine sxo_pass rfl rfl rfl ?_
  refine sxo_pure rfl rfl rfl trivial ?_
  refine sxo_pure rfl rfl rfl trivial ?_
  refine sxo_end ?_
  refine sx_retL hret hro hk (.tmp rfl .nil) ⟨rfl, rfl⟩ (by (apply Take.cons; focus exact .head); (apply Take.cons; focus exact .head); exact .nil)
/-- A wheel: its round, its tried one, who may. -/
@[reducible] def wheelCh (round tried : Int) (mb : Option Nat) : List Ch := [.c (.int .i64 2), .c (.int .i64 3), .c (.int .i64 round), .c (.int .i64 tried), .c (.map mb)]
theorem chokeNew_ok (K : Hp) : TR Tryz.prog K 26 [.o (.int .i64 2), .o (.int .i64 3)] []
    fun v r => ∃ b, v = .t [evPtr b, .o (.int .i64 0)] ∧ r = [.blk b 149 (wheelCh 0 0 none)] := by
  refine tr_intro Tryz.func26 rfl rfl rfl fun cx hro hk hret => ?_
  refine sx_seq ?_
  refine sx_region ?_
  refine sxo_pure rfl rfl rfl trivial ?_
  refine sxo_pure rfl rfl rfl trivial ?_
  refine sxo_end ?_
  refine sx_seq ?_
  refine sx_seq ?_
  refine sx_region ?_
  refine sxo_pure rfl rfl rfl trivial ?_
  refine sxo_pure rfl rfl rfl trivial ?_
  refine sxo_pure rfl rfl rfl trivial ?_
  refine sxo_pure rfl rfl rfl trivial ?_
  refine sxo_pure rfl rfl rfl trivial ?_
  refine sxo_pure rfl rfl rfl trivial ?_
  refine sxo_pure rfl rfl rfl trivial ?_
  refine sxo_pure rfl rfl rfl trivial ?_
  refine sxo_pure rfl rfl rfl trivial ?_
  refine sxo_pure rfl rfl rfl trivial ?_
  refine sxo_pure rfl rfl rfl trivial ?_
  refine sxo_pure rfl rfl rfl trivial ?_
  refine sxo_pure rfl rfl rfl trivial ?_
  refine sxo_pure rfl rfl rfl trivial ?_
  refine sxo_end ?_
  refine sx_condF rfl ?_
  refine sx_skip ?_
  refine sx_seq ?_
  refine sx_region ?_
  refine sxo_pure rfl rfl rfl trivial ?_
  refine sxo_pure rfl rfl rfl trivial ?_
  refine sxo_build rfl rfl rfl rfl rfl rfl rfl rfl rfl ?_
  refine sxo_box rfl rfl rfl rfl rfl rfl (fun _ => ?_)
  refine sxo_pure rfl rfl rfl trivial ?_
  refine sxo_pure rfl rfl rfl trivial ?_
  refine sxo_end ?_
  refine sx_retL hret hro hk (.tmp rfl (.tmp rfl .nil)) ⟨_, rfl, rfl⟩ (by (apply Take.cons; focus exact .head); exact .nil)
theorem flightNew_ok (K : Hp) : TR Tryz.prog K 148 [.o (.int .i64 4), .o (.int .i64 2), .o (.int .i64 5)] []
    fun v r => ∃ b, v = .t [evPtr b, .o (.int .i64 0)] ∧ r = [] := by
  refine tr_intro Tryz.func148 rfl rfl rfl fun cx hro hk hret => ?_
  refine sx_seq ?_
  refine sx_region ?_
  refine sxo_pure rfl rfl rfl trivial ?_
  refine sxo_pure rfl rfl rfl trivial ?_
  refine sxo_end ?_
  refine sx_seq ?_
  refine sx_seq ?_
  refine sx_region ?_
  refine sxo_pure rfl rfl rfl trivial ?_
  refine sxo_call0 rfl rfl rfl rfl (by exact .nil) (fun Kc hK hB => withinF_t Kc [] _ _ _ (by decide)) rfl rfl ?_ (hH := by rintro v m ⟨rfl, rfl⟩; (exact hh_nil))
  rintro v m ⟨rfl, rfl⟩
  simp only [List.cons_append, List.nil_append, List.append_nil, resV]
  refine sxo_pure rfl rfl rfl trivial ?_
  refine sxo_pure rfl rfl rfl trivial ?_
  refine sxo_pure rfl rfl rfl trivial ?_
  refine sxo_pure rfl rfl rfl trivial ?_
  refine sxo_call0 rfl rfl rfl rfl (by exact .nil) (fun Kc hK hB => withinF_t Kc [] _ _ _ (by decide)) rfl rfl ?_ (hH := by rintro v m ⟨rfl, rfl⟩; (exact hh_nil))
  rintro v m ⟨rfl, rfl⟩
  simp only [List.cons_append, List.nil_append, List.append_nil, resV]
  refine sxo_pure rfl rfl rfl trivial ?_
  refine sxo_pure rfl rfl rfl trivial ?_
  refine sxo_pure rfl rfl rfl trivial ?_
  refine sxo_pure rfl rfl rfl trivial ?_
  refine sxo_call0 rfl rfl rfl rfl (by exact .nil) (fun Kc hK hB => withinF_t Kc [] _ _ _ (by decide)) rfl rfl ?_ (hH := by rintro v m ⟨rfl, rfl⟩; (exact hh_nil))
  rintro v m ⟨rfl, rfl⟩
  simp only [List.cons_append, List.nil_append, List.append_nil, resV]
  refine sxo_pure rfl rfl rfl trivial ?_
  refine sxo_pure rfl rfl rfl trivial ?_
  refine sxo_end ?_
  refine sx_condF rfl ?_
  refine sx_skip ?_
  refine sx_seq ?_
  refine sx_region ?_
  refine sxo_pure rfl rfl rfl trivial ?_
  refine sxo_pure rfl rfl rfl trivial ?_
  refine sxo_pure rfl rfl rfl trivial ?_
  refine sxo_makeMap ekInt evM rfl rfl rfl rfl (fun bm => ?_)
  refine sxo_build rfl rfl rfl rfl rfl rfl rfl rfl rfl ?_
  refine sxo_box rfl rfl rfl rfl rfl rfl (fun _ => ?_)
  refine sxo_pure rfl rfl rfl trivial ?_
  refine sxo_pure rfl rfl rfl trivial ?_
  refine sxo_end ?_
  refine sx_retL hret hro hk (.tmp rfl (.tmp rfl .nil)) ⟨_, rfl, rfl⟩ (by exact .nil)
theorem rarestNew_ok (K : Hp) : TR Tryz.prog K 147 [.o (.int .i64 1), .o (.int .i64 5)] []
    fun v r => ∃ b, v = .t [evPtr b, .o (.int .i64 0)] ∧ r = [] := by
  refine tr_intro Tryz.func147 rfl rfl rfl fun cx hro hk hret => ?_
  refine sx_seq ?_
  refine sx_region ?_
  refine sxo_pure rfl rfl rfl trivial ?_
  refine sxo_pure rfl rfl rfl trivial ?_
  refine sxo_end ?_
  refine sx_seq ?_
  refine sx_seq ?_
  refine sx_region ?_
  refine sxo_pure rfl rfl rfl trivial ?_
  refine sxo_pure rfl rfl rfl trivial ?_
  refine sxo_pure rfl rfl rfl trivial ?_
  refine sxo_pure rfl rfl rfl trivial ?_
  refine sxo_pure rfl rfl rfl trivial ?_
  refine sxo_pure rfl rfl rfl trivial ?_
  refine sxo_pure rfl rfl rfl trivial ?_
  refine sxo_pure rfl rfl rfl trivial ?_
  refine sxo_pure rfl rfl rfl trivial ?_
  refine sxo_pure rfl rfl rfl trivial ?_
  refine sxo_pure rfl rfl rfl trivial ?_
  refine sxo_pure rfl rfl rfl trivial ?_
  refine sxo_pure rfl rfl rfl trivial ?_
  refine sxo_pure rfl rfl rfl trivial ?_
  refine sxo_end ?_
  refine sx_condF rfl ?_
  refine sx_skip ?_
  refine sx_seq ?_
  refine sx_region ?_
  refine sxo_pure rfl rfl rfl trivial ?_
  refine sxo_pure rfl rfl rfl trivial ?_
  refine sxo_makeMap ekInt evM rfl rfl rfl rfl (fun bm => ?_)
  refine sxo_pure rfl rfl rfl trivial ?_
  refine sxo_makeSlice encI 0 rfl rfl rfl rfl rfl rfl rfl rfl rfl rfl rfl rfl rfl (by decide) (fun b => ?_)
  refine sxo_build rfl rfl rfl rfl rfl rfl rfl rfl rfl ?_
  refine sxo_box rfl rfl rfl rfl rfl rfl (fun _ => ?_)
  refine sxo_pure rfl rfl rfl trivial ?_
  refine sxo_pure rfl rfl rfl trivial ?_
  refine sxo_end ?_
  refine sx_retL hret hro hk (.tmp rfl (.tmp rfl .nil)) ⟨_, rfl, rfl⟩ (by exact .nil)
theorem connNew_ok (K : Hp) : TR Tryz.prog K 66 [.o (.int .i64 1), .o (.int .i64 5), .o (.int .i64 4), .o (.int .i64 2), .o (.int .i64 5)] []
    fun v r => ∃ b, v = .t [evPtr b, .o (.int .i64 0)] ∧ r = [] := by
  refine tr_intro Tryz.func66 rfl rfl rfl fun cx hro hk hret => ?_
  refine sx_seq ?_
  refine sx_region ?_
  refine sxo_pure rfl rfl rfl trivial ?_
  refine sxo_pure rfl rfl rfl trivial ?_
  refine sxo_end ?_
  refine sx_seq ?_
  refine sx_region ?_
  refine sxo_pure rfl rfl rfl trivial ?_
  refine sxo_pure rfl rfl rfl trivial ?_
  refine sxo_call0 rfl rfl rfl rfl (by exact .nil) (fun Kc hK hB => rarestNew_ok Kc) rfl rfl ?_ (hH := by rintro v m ⟨b1, rfl, rfl⟩; (exact hh_nil))
  rintro v m ⟨b1, rfl, rfl⟩
  simp only [List.cons_append, List.nil_append, List.append_nil, resV]
  refine sxo_pure rfl rfl rfl trivial ?_
  refine sxo_pure rfl rfl rfl trivial ?_
  refine sxo_pure rfl rfl rfl trivial ?_
  refine sxo_pure rfl rfl rfl trivial ?_
  refine sxo_pure rfl rfl rfl trivial ?_
  refine sxo_end ?_
  refine sx_seq ?_
  refine sx_seq ?_
  refine sx_region ?_
  refine sxo_pure rfl rfl rfl trivial ?_
  refine sxo_pure rfl rfl rfl trivial ?_
  refine sxo_end ?_
  refine sx_condF rfl ?_
  refine sx_skip ?_
  refine sx_seq ?_
  refine sx_region ?_
  refine sxo_pure rfl rfl rfl trivial ?_
  refine sxo_pure rfl rfl rfl trivial ?_
  refine sxo_pure rfl rfl rfl trivial ?_
  refine sxo_call0 rfl rfl rfl rfl (by exact .nil) (fun Kc hK hB => flightNew_ok Kc) rfl rfl ?_ (hH := by rintro v m ⟨b2, rfl, rfl⟩; (exact hh_nil))
  rintro v m ⟨b2, rfl, rfl⟩
  simp only [List.cons_append, List.nil_append, List.append_nil, resV]
  refine sxo_pure rfl rfl rfl trivial ?_
  refine sxo_pure rfl rfl rfl trivial ?_
  refine sxo_pure rfl rfl rfl trivial ?_
  refine sxo_pure rfl rfl rfl trivial ?_
  refine sxo_pure rfl rfl rfl trivial ?_
  refine sxo_end ?_
  refine sx_seq ?_
  refine sx_seq ?_
  refine sx_region ?_
  refine sxo_pure rfl rfl rfl trivial ?_
  refine sxo_pure rfl rfl rfl trivial ?_
  refine sxo_end ?_
  refine sx_condF rfl ?_
  refine sx_skip ?_
  refine sx_seq ?_
  refine sx_region ?_
  refine sxo_pure rfl rfl rfl trivial ?_
  refine sxo_pure rfl rfl rfl trivial ?_
  refine sxo_pure rfl rfl rfl trivial ?_
  refine sxo_build rfl rfl rfl rfl rfl rfl rfl rfl rfl ?_
  refine sxo_box rfl rfl rfl rfl rfl rfl (fun _ => ?_)
  refine sxo_pure rfl rfl rfl trivial ?_
  refine sxo_pure rfl rfl rfl trivial ?_
  refine sxo_end ?_
  refine sx_retL hret hro hk (.tmp rfl (.tmp rfl .nil)) ⟨_, rfl, rfl⟩ (by exact .nil)
end Go.SX
